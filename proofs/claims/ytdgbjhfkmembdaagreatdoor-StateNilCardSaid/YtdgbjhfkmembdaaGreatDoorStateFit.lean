/-
  An operation of a change that is added names what it may, and makes what it makes. Conditions: the state, the adder lie in memory; the operation is well formed, its indexes from 0 up.
-/
import Derived.Test.YtdgbjhfkmembdaaGreatDoorStateElem
import Derived.Test.YtdgbjhfkmembdaaGreatDoorStateClaim
import Derived.Test.YtdgbjhfkmembdaaGreatDoorUtfRunes
import Derived.Test.YtdgbjhfkmembdaaGreatDoorObjAbsent
namespace Go.Proofs.YtdgbjhfkmembdaaGreatDoor
open Go.RowKit Go.Maps
set_option linter.unusedVariables false
set_option linter.unusedSimpArgs false

def makeZ : List Value := makeV (false, (0, zero32, 0))
theorem infoMake15 : (Tryz.prog.info? 199).map (fun i => (i.zero, i.size, i.bytes)) = some (some (.agg makeZ.toArray), 35, 56) := by kernel_rfl
theorem make_builtT (w : World) : (Instr.build 199 #[(0, .bool true)]).run Tryz.prog w = .ok (.agg (makeV (true, (0, zero32, 0))).toArray) w := by kernel_rfl
theorem make_builtF (k : KeyD) (hk : KeyOk k) (w : World) : (Instr.build 199 #[(1, .agg (keyV k).toArray)]).run Tryz.prog w = .ok (.agg (makeV (false, k)).toArray) w := by
  obtain ⟨j, hi, hz, _, _⟩ := info_parts infoMake15
  have h := built_struct (P := Tryz.prog) hi Tryz.underlying199 hz [[.bool false], keyV (0, zero32, 0)] rfl (places := [(0, 1), (1, 34)]) (by kernel_rfl) (by kernel_rfl) [(1, .agg (keyV k).toArray)] (by
    intro q hq
    simp only [List.mem_cons, List.not_mem_nil, or_false] at hq
    subst hq
    exact ⟨by show 1 < 2; omega, by show (keyV k).toArray.size = 34; rw [List.size_toArray, keyV_length hk]⟩)
  have h2 := run_build (P := Tryz.prog) w 199 #[(1, .agg (keyV k).toArray)] _ h
  refine h2.trans ?_
  simp [makeV, Value.cells]
theorem ElemAt.grown {w w' : World} {ba bo bd a : Nat} {x : OpD} {k : KeyD} {r : Nat} (h : ElemAt w ba bo bd a x k) (hg : w.grownBy w' (some r)) (hr : ∀ {j : Nat}, j = r → ∀ cur t, w.heap[j]? = some (.cells cur t (0, 0)) → False) : ElemAt w' ba bo bd a x k :=
  ⟨(hg.block ba (qX h.pa) fun e => hr (Option.some.inj e) _ _ h.pa).trans h.pa, (hg.block bo (qX h.po) fun e => hr (Option.some.inj e) _ _ h.po).trans h.po, (hg.block bd (qX h.pd) fun e => hr (Option.some.inj e) _ _ h.pd).trans h.pd⟩
theorem ElemAt.but {X : Nat → Prop} {w w' : World} {ba bo bd a : Nat} {x : OpD} {k : KeyD} (h : ElemAt w ba bo bd a x k) (hb : But X w w') (hx : ∀ j, X j → ∃ cur t, w.heap[j]? = some (.cells cur t (0, 0)) ∧ (t = 127 ∨ t = 199)) : ElemAt w' ba bo bd a x k := by
  have hn : ∀ {j : Nat} {cur : Array Value} {t : TypeId}, w.heap[j]? = some (.cells cur t (0, 0)) → t ≠ 127 → t ≠ 199 → ¬ X j := fun hc h1 h2 hX => by
    obtain ⟨c2, t2, h3, h4⟩ := hx _ hX
    exact ne_tag hc h3 (by rcases h4 with rfl | rfl <;> assumption) rfl
  exact ⟨(hb.block ba (qX h.pa) (hn h.pa (by decide) (by decide))).trans h.pa, (hb.block bo (qX h.po) (hn h.po (by decide) (by decide))).trans h.po, (hb.block bd (qX h.pd) (hn h.pd (by decide) (by decide))).trans h.pd⟩
/-- What making leaves. -/
def MkTo (w : World) (a s B0 : Nat) (i : List UInt8) (c : ChangeD) (dv ov vm : Value) (mk2 : List MakeD) (w' : World) : Prop :=
  But (fun k => k = a ∨ vm.ownBlock = some k) w w' ∧ ∃ Am cm, AdderAt w' a s i c dv ov (.slice Am mk2.length cm) ∧ w'.ownsRow B0 199 35 (.slice Am mk2.length cm) mk2.length (rowsV makeV mk2) ∧ Newer w vm (.slice Am mk2.length cm)
theorem MkTo.same {w w' : World} {a s B0 : Nat} {i : List UInt8} {c : ChangeD} {dv ov : Value} {Am : Option Addr} {cm : Nat} {mk : List MakeD} (hA : AdderAt w a s i c dv ov (.slice Am mk.length cm)) (hr : w.ownsRow B0 199 35 (.slice Am mk.length cm) mk.length (rowsV makeV mk)) (hb : Below w.heap.size w w') : MkTo w a s B0 i c dv ov (.slice Am mk.length cm) mk w' :=
  ⟨But.of_below hb, Am, cm, hA.keep hb, (But.of_below (X := NoB) hb).own hr (fun _ _ q => q), Newer.refl _ _⟩
def FitGives (S : StateD) (w : World) (a s B0 : Nat) (i : List UInt8) (c : ChangeD) (dv ov vm : Value) (mk : List MakeD) (x : OpD) (e : Ending) (w' : World) : Prop :=
  (∃ mk2, fitAt S i c.1 mk x = some mk2 ∧ e = .returned (.tuple #[]) ∧ MkTo w a s B0 i c dv ov vm mk2 w') ∨ (fitAt S i c.1 mk x = none ∧ e = .panicked (stopP 22) ∧ Below w.heap.size w w')
set_option maxRecDepth 100000 in
theorem ex_madeDoc {ρ : Operand → Value} {o : Oper} {w : World} {x : Operand} {d : Bool} {l : List Value} (ho : o.op = .field 199 x 0) (hx : ρ x = .agg (.bool d :: l).toArray) : (execOp ρ o).run Tryz.prog w = .ok (.value (.bool d)) w := by
  unfold execOp
  simp only [ho, hx]
  kernel_rfl
theorem AdderAt.put {w w' : World} {a s : Nat} {i : List UInt8} {c : ChangeD} {dv ov vm v2 : Value} (h : AdderAt w a s i c dv ov vm) : ∃ pre : List Value, pre.length = 37 ∧ w.heap[a]? = some (.cells (pre ++ ([vm] ++ [])).toArray 127 (0, 0)) ∧ ∀ w' : World, w'.heap[a]? = some (.cells (pre ++ ([v2] ++ [])).toArray 127 (0, 0)) → AdderAt w' a s i c dv ov v2 := by
  have hl : (idV i).length = 32 := by rw [idV_length]; exact h.id
  refine ⟨Value.pointer (some ⟨s, 0, none⟩) :: (idV i ++ [.int .i64 c.1, dv, .string c.2.2.1, ov]), by simp [hl], ?_, fun w' hw => ⟨?_, h.id⟩⟩
  · rw [h.box]; simp
  · rw [hw]; simp
theorem rowsV_snocM {α : Type} (enc : α → List Value) (l : List α) (x : α) : rowsV enc (l ++ [x]) = rowsV enc l ++ enc x := by simp [rowsV]
set_option maxHeartbeats 4000000 in
set_option maxRecDepth 100000 in
theorem fit_create (B0 B a s : Nat) (S : StateD) (q : StateL) (i : List UInt8) (c : ChangeD) (dv ov : Value) (Am : Option Addr) (cm : Nat) (mk : List MakeD) (x : OpD) (w : World) (h : MidAt w B a s S q i c dv ov Am cm mk) (hrow : w.ownsRow B0 199 35 (.slice Am mk.length cm) mk.length (rowsV makeV mk)) (hB0 : B0 ≤ w.heap.size) (hx : OpIn x) (hlm : mk.length ≤ 1073741824) (h3 : x.1 = 3) :
    Calls Tryz.prog 52 #[.pointer (some ⟨a, 0, none⟩), .agg (opV x).toArray] w (FitGives S w a s B0 i c dv ov (.slice Am mk.length cm) mk x) := by
  have HM := Lib.hid h; have HX := Lib.hid hx; have HRW := Lib.hid hrow
  have hol := opV_length hx
  have hal := qX h.ad.box
  clear h hx hrow
  go_enter Tryz.func52, Tryz.ntmps52
  go_upto_region 1 with (first
    | (with_reducible refine at_box ?_
       refine wp_boxM (by rfl) 125 _ rfl [.pointer (some ⟨a, 0, none⟩)] _ rfl rfl (by kernel_rfl) ?_
       intro W0 hb0 hy0 hs0
       have HB0 := Lib.hid hb0; have HY0 := Lib.hid hy0; have HS0 := Lib.hid hs0
       clear hb0 hy0 hs0)
    | (with_reducible refine at_box ?_
       refine wp_boxM (by rfl) 112 _ rfl (opV x) _ rfl rfl (by rw [hol]; kernel_rfl) ?_
       intro W1 hb1 hy1 hs1
       have HB1 := Lib.hid hb1; have HY1 := Lib.hid hy1; have HS1 := Lib.hid hs1
       clear hb1 hy1 hs1))
  obtain ⟨b2, hb2⟩ : ∃ z, w.heap.size = z := ⟨_, rfl⟩
  obtain ⟨b3, hb3⟩ : ∃ z, W0.heap.size = z := ⟨_, rfl⟩
  have HBW := Lib.hid (HB0.out.trans (HB1.out.mono HB0.out.size))
  have HY2 := Lib.hid ((HB1.out.block w.heap.size (qX HY0.out)).trans HY0.out)
  rw [hb2] at HY2 ⊢
  rw [hb3] at HY1 ⊢
  have HL2 := Lib.hid (show w.heap.size ≤ b2 by omega)
  have HL3 := Lib.hid (show w.heap.size ≤ b3 by have := HB0.out.size; omega)
  have HM1 := Lib.hid (HM.out.keep HBW.out)
  have HRW1 := Lib.hid ((But.of_below (X := NoB) HBW.out).own HRW.out fun _ _ q => q)
  clear HB0 HB1 HS0 HS1 hb2 hb3 HY0
  have k0 : W1.cell? ⟨b3, 0, none⟩ = some (.int .u8 (x.1.toNat : Int)) := (cells_at0 HY1.out 0).trans (op_cells HX.out).1
  have ek : (x.1.toNat : Int) = 3 := by rw [h3]; rfl
  rw [ek] at k0
  have HF3 : Hid (fitAt S i c.1 mk x = some (mk ++ [(true, (0, zero32, 0))])) := Lib.hid (by unfold fitAt; rw [if_pos h3])
  clear ek h3
  go_upto_region 2 with fail
  clear k0
  have HVN := Lib.hid (show (Value.slice Am mk.length cm).ownBlock ≠ some a from fun e => by
    obtain ⟨cc, hcc⟩ := own_tagged HRW1.out e
    exact ne_tag hcc HM1.out.ad.box (by decide) rfl)
  have HVB := Lib.hid (show ∀ k, (Value.slice Am mk.length cm).ownBlock = some k → k < w.heap.size from fun k hk => (HRW.out.lt k hk).2)
  have HBZ : Hid (B0 ≤ W1.heap.size) := Lib.hid (qT hB0 HBW.out.size)
  have HF : Hid (∀ u : World, But (fun k => (Value.slice Am mk.length cm).ownBlock = some k) W1 u → u.cell? ⟨b2, 0, none⟩ = some (.pointer (some ⟨a, 0, none⟩)) ∧ u.cell? ⟨a, 37, none⟩ = some (.slice Am mk.length cm)) := Lib.hid fun u hu => by
    refine ⟨(hu.cell (g := b2) (j := 0) (qX HY2.out) fun e => ?_).trans (cells_at0 HY2.out 0), (hu.cell (g := a) (j := 37) (qX HM1.out.ad.box) HVN.out).trans (HM1.out.ad.rest 4)⟩
    have := HVB.out b2 e
    have := HL2.out
    omega
  refine rN 10 (fun u => But (fun k => (Value.slice Am mk.length cm).ownBlock = some k) W1 u) (But.of_below (qD _ _)) fun hF0 => ?_
  refine tl 0 (.pointer (some ⟨a, 0, none⟩)) rfl hF0 (fun w' hw' => l1 Tryz.underlying125 (HF.out w' hw').1) ?_
  go_frame
  refine tl 1 (.pointer (some ⟨a, 0, none⟩)) rfl hF0 (fun w' hw' => l1 Tryz.underlying125 (HF.out w' hw').1) ?_
  go_frame
  refine tw 2 (.pointer (some ⟨a, 0, none⟩)) ?_
  go_frame
  refine tw 3 (.pointer (some ⟨a, 37, none⟩)) ?_
  go_frame
  refine tl 4 (.slice Am mk.length cm) rfl hF0 (fun w' hw' => l1 Tryz.underlying103 (HF.out w' hw').2) ?_
  go_frame
  refine tk 5 (.agg (makeV (true, (0, zero32, 0))).toArray) rfl (fun w' hw' => ex_build 199 _ rfl (by simp only [List.map_toArray, List.map_cons, List.map_nil]; exact make_builtT _)) ?_
  go_frame
  refine ta 6 ?_
  refine wpOp_val _ rfl (by kernel_rfl) (ex_build1N 103 _ rfl 199 Tryz.underlying103 (.agg makeZ.toArray) 35 56 infoMake15 rfl (by decide) (by decide) (makeV (true, (0, zero32, 0))) (show (makeV (true, (0, zero32, 0))).length = 35 from rfl) rfl) ?_
  have HBA := Lib.hid ((qD W1.heap.size W1).alloc (qR _) (.cells (makeV (true, (0, zero32, 0))).toArray 199))
  refine ⟨fun _ _ => But.of_below HBA.out, ?_⟩
  go_frame
  refine ta 7 ?_
  refine wpOp_wp _ rfl (by kernel_rfl) ?_
  refine op_appW _ _ 103 rfl B0 199 (.agg makeZ.toArray) 35 56 Tryz.underlying103 infoMake15 rfl (by decide) (.slice Am mk.length cm) mk.length (rowsV makeV mk) rfl ((But.of_below (X := NoB) HBA.out).own HRW1.out fun _ _ q => q) ⟨W1.drew.heap.size, 0, none⟩ 1 1 (makeV (true, (0, zero32, 0))) rfl (by rw [(show (makeV (true, (0, zero32, 0))).length = 35 from rfl)]) (news_cells W1.drew _ _) (makeV_one _) (by unfold maxLen; omega) (by omega) (by have := HBZ.out; have := HBA.out.size; omega) ?_
  intro v9 w9 ho9 hg9 hw9
  have HB9 : Hid (But (fun k => (Value.slice Am mk.length cm).ownBlock = some k) W1 w9) := Lib.hid ((But.of_below HBA.out).grown hg9 fun k e _ => e)
  have HO9 := Lib.hid ho9
  have HN9 : Hid (Newer W1 (.slice Am mk.length cm) v9) := Lib.hid fun k hk => by
    rcases hw9 with e | ⟨g, e, hz⟩
    · left
      rw [← e]; exact hk
    · right
      rw [e] at hk
      have e2 : g = k := by simpa using hk
      subst e2
      have h1 := HBA.out.size
      omega
  have HA9 := Lib.hid ((HB9.out.block a (qX HM1.out.ad.box) HVN.out).trans HM1.out.ad.box)
  obtain ⟨A9, c9, rfl⟩ := own_form ho9
  clear ho9 hg9 hw9
  refine ⟨fun _ _ => HB9.out, ?_⟩
  go_frame
  refine tw 8 (.pointer (some ⟨a, 0, none⟩)) ?_
  go_frame
  refine tw 9 (.pointer (some ⟨a, 37, none⟩)) ?_
  go_frame
  obtain ⟨pre, hpl, hpa, hpn⟩ := (AdderAt.mk (dv := dv) (ov := ov) (c := c) HA9.out HM1.out.ad.id).put (w' := w9) (v2 := .slice A9 (mk.length + 1) c9)
  have HPA := Lib.hid hpa; have HPN := Lib.hid hpn
  clear hpa hpn
  refine ta 10 ?_
  refine wpOp_storeM _ rfl (by kernel_rfl) 103 _ _ rfl a 37 pre [.slice Am mk.length cm] [] [.slice A9 (mk.length + 1) c9] 127 (.slice A9 (mk.length + 1) c9) rfl hpl.symm rfl rfl HPA.out rfl (by kernel_rfl) (by intro u hu; rw [List.mem_singleton.1 hu]; rfl) ?_
  intro W2 hb2 hy2 hs2
  have HB2 := Lib.hid hb2; have HYA2 := Lib.hid hy2
  clear hb2 hy2 hs2
  refine ⟨fun h => absurd h (by decide), ?_⟩
  go_frame
  refine wpAnyN_done (by kernel_rfl) ?_ _
  go_wp2_with fail
  refine bodyPost_ret (results_none (by kernel_rfl) _ _ _) rfl ?_
  have hbt : But (fun k => k = a ∨ (Value.slice Am mk.length cm).ownBlock = some k) W1 W2 := (HB9.out.weak fun _ _ h => .inr h).trans HB2.out fun k hk e => .inl e
  have ho2 : W2.ownsRow B0 199 35 (.slice A9 (mk.length + 1) c9) (mk.length + 1) (rowsV makeV mk ++ makeV (true, (0, zero32, 0))) := HB2.out.own HO9.out fun g hg e => by
    obtain ⟨cur, hcur⟩ := own_tagged HO9.out hg
    have e2 : g = a := e
    subst e2
    exact ne_tag hcur HA9.out (by decide) rfl
  refine .inl ⟨_, HF3.out, rfl, (But.of_below HBW.out).trans hbt (fun j hj h => h), A9, c9, ?_, ?_, fun k hk => ?_⟩
  · rw [List.length_append, List.length_singleton]
    exact HPN.out W2 HYA2.out
  · rw [List.length_append, List.length_singleton, rowsV_snocM]
    exact ho2
  · rw [List.length_append, List.length_singleton] at hk
    rcases HN9.out k hk with e | e
    · exact .inl e
    · exact .inr (qT HBW.out.size e)
set_option maxHeartbeats 4000000 in
set_option maxRecDepth 100000 in
theorem fit_other (B0 B a s : Nat) (S : StateD) (q : StateL) (i : List UInt8) (c : ChangeD) (dv ov : Value) (Am : Option Addr) (cm : Nat) (mk : List MakeD) (x : OpD) (w : World) (h : MidAt w B a s S q i c dv ov Am cm mk) (hrow : w.ownsRow B0 199 35 (.slice Am mk.length cm) mk.length (rowsV makeV mk)) (hB0 : B0 ≤ w.heap.size) (hx : OpIn x) (hlm : mk.length ≤ 1073741824) (hn3 : x.1 ≠ 3) (htm : (Lit.int .i64 c.1).wf = true) (hd : RefIx S x.2.1) (ha : RefIx S x.2.2.1) (htx : x.2.2.2.1.size ≤ 1073741824) (htt : isText x.2.2.2.1 = true) (hct : x.2.2.2.2.1 ≤ 1099511627776) :
    Calls Tryz.prog 52 #[.pointer (some ⟨a, 0, none⟩), .agg (opV x).toArray] w (FitGives S w a s B0 i c dv ov (.slice Am mk.length cm) mk x) := by
  have HRD0 := Lib.hid hd; have HRA0 := Lib.hid ha
  have hmf : ∀ (fn : Fn) (first cap : Array Value) (w : World), (Instr.makeFunc fn first cap).run Tryz.prog w = .ok (.func fn first cap) w := fun _ _ _ _ => rfl
  clear hd ha
  have HM := Lib.hid h; have HX := Lib.hid hx; have HRW := Lib.hid hrow
  have hol := opV_length hx
  have hal := qX h.ad.box
  clear h hx hrow
  go_enter Tryz.func52, Tryz.ntmps52
  go_upto_region 1 with (first
    | (with_reducible refine at_box ?_
       refine wp_boxM (by rfl) 125 _ rfl [.pointer (some ⟨a, 0, none⟩)] _ rfl rfl (by kernel_rfl) ?_
       intro W0 hb0 hy0 hs0
       have HB0 := Lib.hid hb0; have HY0 := Lib.hid hy0; have HS0 := Lib.hid hs0
       clear hb0 hy0 hs0)
    | (with_reducible refine at_box ?_
       refine wp_boxM (by rfl) 112 _ rfl (opV x) _ rfl rfl (by rw [hol]; kernel_rfl) ?_
       intro W1 hb1 hy1 hs1
       have HB1 := Lib.hid hb1; have HY1 := Lib.hid hy1; have HS1 := Lib.hid hs1
       clear hb1 hy1 hs1))
  obtain ⟨b2, hb2⟩ : ∃ z, w.heap.size = z := ⟨_, rfl⟩
  obtain ⟨b3, hb3⟩ : ∃ z, W0.heap.size = z := ⟨_, rfl⟩
  have HBW := Lib.hid (HB0.out.trans (HB1.out.mono HB0.out.size))
  have HY2 := Lib.hid ((HB1.out.block w.heap.size (qX HY0.out)).trans HY0.out)
  rw [hb2] at HY2 ⊢
  rw [hb3] at HY1 ⊢
  have HL2 := Lib.hid (show w.heap.size ≤ b2 by omega)
  have HL3 := Lib.hid (show w.heap.size ≤ b3 by have := HB0.out.size; omega)
  have HM1 := Lib.hid (HM.out.keep HBW.out)
  have HRW1 := Lib.hid ((But.of_below (X := NoB) HBW.out).own HRW.out fun _ _ q => q)
  clear HB0 HB1 HS0 HS1 hb2 hb3 HY0
  have k0 : W1.cell? ⟨b3, 0, none⟩ = some (.int .u8 (x.1.toNat : Int)) := (cells_at0 HY1.out 0).trans (op_cells HX.out).1
  have hk3 : ((x.1.toNat : Int) == 3) = false := by
    rw [beq_eq_false_iff_ne]
    intro e
    exact hn3 (UInt8.toNat_inj.1 (by show x.1.toNat = 3; omega))
  have HN3 := Lib.hid hn3
  have HRD := Lib.hid (show W1.rangeAt b3 1 (refV x.2.1) from fun j u hj => (cells_at0 HY1.out (1 + j)).trans ((op_cells HX.out).2.1 j u hj))
  have c20 : W1.cell? ⟨b2, 0, none⟩ = some (.pointer (some ⟨a, 0, none⟩)) := cells_at0 HY2.out 0
  have HWH := Lib.hid (what_any B a s S q i c dv ov Am cm mk x.2.1 0 W1 HM1.out.st HM1.out.ad HM1.out.row HM1.out.keys HRD0.out.1 HRD0.out.2.1 (by omega) HM1.out.len HRD0.out.2.2)
  clear hn3
  cases hw : whatAt S mk x.2.1 0 with
  | none =>
    have HW := Lib.hid hw
    have HFN : Hid (fitAt S i c.1 mk x = none) := Lib.hid (by unfold fitAt; rw [if_neg HN3.out, hw])
    clear hw
    go_wp2_with (first
      | (with_reducible refine at_load ?_
         refine wp_val (by rfl) (ex_load 110 _ rfl (p := ⟨b3, 1, none⟩) rfl (qV _ b3 1 _ (refV x.2.1) _ HRD.out Tryz.underlying110 rfl (by rw [refV_length HX.out.1.1]; kernel_rfl))) ?_)
      | (go_at_call 96; refine HWH.out.mono ?_
         rintro e w5 ⟨hb5, ⟨m, hm1, _⟩ | ⟨_, rfl⟩⟩
         · rw [HW.out] at hm1
           cases hm1
         have HB5 := Lib.hid hb5
         clear hb5))
    exact ⟨rfl, .inr ⟨HFN.out, rfl, HBW.out.trans (HB5.out.mono HBW.out.size)⟩⟩
  | some m =>
    have HW := Lib.hid hw
    clear hw
    cases hmd : m.1
    · have HMD := Lib.hid hmd
      have HFN : Hid (fitAt S i c.1 mk x = none) := Lib.hid (by unfold fitAt; rw [if_neg HN3.out, HW.out]; dsimp only; rw [if_pos hmd])
      have hmv : makeV m = .bool false :: keyV m.2 := by unfold makeV; rw [hmd]
      clear hmd
      go_wp2_with (first
        | (with_reducible refine at_load ?_
           refine wp_val (by rfl) (ex_load 110 _ rfl (p := ⟨b3, 1, none⟩) rfl (qV _ b3 1 _ (refV x.2.1) _ HRD.out Tryz.underlying110 rfl (by rw [refV_length HX.out.1.1]; kernel_rfl))) ?_)
        | (go_at_call 96; refine HWH.out.mono ?_
           rintro e w5 ⟨hb5, ⟨m', hm1, rfl⟩ | ⟨hm1, _⟩⟩
           rotate_left
           · rw [HW.out] at hm1
             cases hm1
           obtain rfl : m' = m := Option.some.inj (hm1.symm.trans HW.out)
           rw [hmv]
           have HB5 := Lib.hid hb5
           clear hb5 hm1)
        | (refine wp_val (by rfl) (ex_madeDoc rfl rfl) ?_)
        | (go_at_call 51; refine (sneed_no 22 _).mono ?_; rintro e w9 ⟨rfl, rfl⟩))
      exact ⟨rfl, .inr ⟨HFN.out, rfl, HBW.out.trans (HB5.out.mono HBW.out.size)⟩⟩
    · have HMD := Lib.hid hmd
      have hmv : makeV m = .bool true :: keyV m.2 := by unfold makeV; rw [hmd]
      clear hmd
      have HKY := Lib.hid (keyAt_ok (t := c.1) (r := x.2.1) HM.out.st HM.out.ad.id htm HX.out.1.1)
      have hkl := keyV_length HKY.out
      have HSK := Lib.hid (fun (u : World) (hu : Below W1.heap.size W1 u) => skey_any B a s S q i c dv ov (.slice Am mk.length cm) x.2.1 u (HM1.out.st.keep hu) (HM1.out.ad.keep hu) HRD0.out.1)
      go_upto_region 4 with (first
        | (with_reducible refine at_load ?_
           refine wp_val (by rfl) (ex_load 110 _ rfl (p := ⟨b3, 1, none⟩) rfl (qV _ b3 1 _ (refV x.2.1) _ HRD.out Tryz.underlying110 rfl (by rw [refV_length HX.out.1.1]; kernel_rfl))) ?_)
        | (go_at_call 96; refine HWH.out.mono ?_
           rintro e w5 ⟨hb5, ⟨m', hm1, rfl⟩ | ⟨hm1, _⟩⟩
           rotate_left
           · rw [HW.out] at hm1
             cases hm1
           obtain rfl : m' = m := Option.some.inj (hm1.symm.trans HW.out)
           rw [hmv]
           have HB5 := Lib.hid hb5
           clear hb5 hm1)
        | (refine wp_val (by rfl) (ex_madeDoc rfl rfl) ?_)
        | (go_at_call 51; refine (sneed_yes 22 _).mono ?_; rintro e w5 ⟨rfl, rfl⟩))
      clear c20 k0
      have c20 : w5.cell? ⟨b2, 0, none⟩ = some (.pointer (some ⟨a, 0, none⟩)) := cells_at0 ((HB5.out.block b2 (qX HY2.out)).trans HY2.out) 0
      have HRD5 := Lib.hid (show w5.rangeAt b3 1 (refV x.2.1) from fun j u hj => (HB5.out.cell (p := ⟨b3, 1 + j, none⟩) (qX HY1.out)).trans (HRD.out j u hj))
      go_upto_region 5 with (first
        | (with_reducible refine at_load ?_
           refine wp_val (by rfl) (ex_load 110 _ rfl (p := ⟨b3, 1, none⟩) rfl (qV _ b3 1 _ (refV x.2.1) _ HRD5.out Tryz.underlying110 rfl (by rw [refV_length HX.out.1.1]; kernel_rfl))) ?_)
        | (go_at_call 97; refine (HSK.out w5 HB5.out).mono ?_
           rintro e w6 ⟨hb6, rfl⟩
           have HB6 := Lib.hid hb6
           clear hb6)
        | (with_reducible refine at_alloc ?_
           refine wp_allocM (by rfl) 89 rfl (keyV (0, zero32, 0)) (keyZ_run _) ?_
           intro W7 hb7 hy7 hs7
           have HB7 := Lib.hid hb7; have HY7 := Lib.hid hy7; have HS7 := Lib.hid hs7
           clear hb7 hy7 hs7)
        | (with_reducible refine at_store ?_
           refine wp_storeM (by rfl) 89 _ _ rfl w6.heap.size 0 [] (keyV (0, zero32, 0)) [] (keyV (keyAt S i c.1 x.2.1)) 89 (.agg (keyV (keyAt S i c.1 x.2.1)).toArray) rfl rfl rfl rfl (by simpa using HY7.out) (by rw [hkl]; rfl) (by rw [hkl]; kernel_rfl) (keyV_one _) ?_
           intro W8 hb8 hy8 hs8
           have HB8 := Lib.hid (hb8.below (B := w6.heap.size) HB7.out.size (fun k hk e => by have e2 : k = w6.heap.size := e; omega))
           have HY8 : Hid (W8.heap[w6.heap.size]? = some (.cells (keyV (keyAt S i c.1 x.2.1)).toArray 89 (0, 0))) := Lib.hid (by simpa using hy8)
           clear hb8 hy8 hs8))
      obtain ⟨b4, hb4⟩ : ∃ z, w6.heap.size = z := ⟨_, rfl⟩
      have HB18 : Hid (Below W1.heap.size W1 W8) := Lib.hid (HB5.out.trans ((HB6.out.trans ((HB7.out.trans HB8.out).mono HB6.out.size)).mono HB5.out.size))
      have HBW8 : Hid (Below w.heap.size w W8) := Lib.hid (HBW.out.trans (HB18.out.mono HBW.out.size))
      have HL4 := Lib.hid (show w.heap.size ≤ b4 by have := HBW.out.size; have := HB5.out.size; have := HB6.out.size; omega)
      rw [hb4] at HY8 ⊢
      have HEA : Hid (ElemAt W8 b2 b3 b4 a x (keyAt S i c.1 x.2.1)) := Lib.hid ⟨(HB18.out.block b2 (qX HY2.out)).trans HY2.out, (HB18.out.block b3 (qX HY1.out)).trans HY1.out, HY8.out⟩
      have HM8 := Lib.hid (HM1.out.keep HB18.out)
      have HRW8 := Lib.hid ((But.of_below (X := NoB) HB18.out).own HRW1.out fun _ _ q => q)
      have HFI : Hid (fitAt S i c.1 mk x = (if x.1 = 2 then (if (List.range x.2.2.2.2.1.toNat).all (elemAt S i c.1 mk x) then some mk else none) else if x.1 = 1 then (if x.2.2.1 = x.2.1 ∨ elemAt S i c.1 mk x 0 = true then some (mk ++ List.replicate (runesN x.2.2.2.1) (false, keyAt S i c.1 x.2.1)) else none) else some mk)) := Lib.hid (by
        unfold fitAt
        rw [if_neg HN3.out, HW.out]
        dsimp only
        rw [if_neg (by rw [HMD.out]; decide)])
      have HEL := Lib.hid (fun (u : World) (more : Nat) (hm : more ≤ 1099511627776) (hu : Below W8.heap.size W8 u) => elem_any B a s b2 b3 b4 S q i c dv ov Am cm mk x more u (HM8.out.keep hu) (HEA.out.keep hu) HX.out HKY.out HRA0.out hm)
      generalize keyAt S i c.1 x.2.1 = ky at *
      clear c20 HB5 HB6 HB7 HY7 HS7 HB8 hb4 HWH HSK HRD HRD5 HM1 HRW1 HW HMD hmv
      have k0 : W8.cell? ⟨b3, 0, none⟩ = some (.int .u8 (x.1.toNat : Int)) := (cells_at0 HEA.out.po 0).trans (op_cells HX.out).1
      have k67 : W8.cell? ⟨b3, 67, none⟩ = some (.string x.2.2.2.1) := (cells_at0 HEA.out.po 67).trans (op_cells HX.out).2.2.2.1
      have k68 : W8.cell? ⟨b3, 68, none⟩ = some (.int .i64 x.2.2.2.2.1) := (cells_at0 HEA.out.po 68).trans (op_cells HX.out).2.2.2.2.1
      have hk1 : ((x.1.toNat : Int) == 1) = decide (x.1 = 1) := by
        by_cases e : x.1 = 1
        · rw [dT e, e]; rfl
        · rw [dF e, beq_eq_false_iff_ne]
          intro e2
          exact e (UInt8.toNat_inj.1 (by show x.1.toNat = 1; omega))
      have hk2 : ((x.1.toNat : Int) == 2) = decide (x.1 = 2) := by
        by_cases e : x.1 = 2
        · rw [dT e, e]; rfl
        · rw [dF e, beq_eq_false_iff_ne]
          intro e2
          exact e (UInt8.toNat_inj.1 (by show x.1.toNat = 2; omega))
      by_cases h2 : x.1 = 2
      · rw [dT h2] at hk2
        have HFI2 := Lib.hid (HFI.out.trans (if_pos h2))
        clear h2
        have HCT := Lib.hid (show ∀ j : Nat, (j : Int) < x.2.2.2.2.1 → j ∈ List.range x.2.2.2.2.1.toNat from fun j hj => List.mem_range.2 (by omega))
        go_upto_region 9 with fail
        go_loopw [37] (fun t37 wr => ∃ j : Nat, t37 = .int .i64 (j : Int) ∧ (j = 0 ∨ (j : Int) ≤ x.2.2.2.2.1) ∧ Hid (Below W8.heap.size W8 wr) ∧ Hid (∀ k : Nat, k < j → elemAt S i c.1 mk x k = true)) (fun t37 _ => x.2.2.2.2.1.toNat - (intOf t37).toNat)
        case atStart => exact ⟨0, rfl, .inl rfl, Lib.hid (qB _ _), Lib.hid fun k hk => absurd hk (by omega)⟩
        case round =>
          obtain ⟨j, rfl, hj, HBR, HALL⟩ := hrel
          by_cases hlt : (j : Int) < x.2.2.2.2.1
          · have hltw := hlt
            cases hel : elemAt S i c.1 mk x j
            · have HE0 := Lib.hid hel
              have HFI4 : Hid (fitAt S i c.1 mk x = none) := Lib.hid (HFI2.out.trans (if_neg (fun q => by
                have := List.all_eq_true.1 q j (HCT.out j hlt)
                rw [hel] at this
                cases this)))
              clear hel
              go_wp2_with (first
                | (go_at_call 98; refine (HEL.out wr j (by omega) HBR.out).mono ?_
                   rintro e W9 ⟨hb9, ⟨q, _⟩ | ⟨_, rfl⟩⟩
                   · rw [HE0.out] at q
                     cases q
                   have HB9 := Lib.hid hb9
                   clear hb9))
              exact ⟨rfl, .inr ⟨HFI4.out, rfl, HBW8.out.trans ((HBR.out.trans (HB9.out.mono HBR.out.size)).mono HBW8.out.size)⟩⟩
            · have HE0 := Lib.hid hel
              clear hel
              go_wp2_with (first
                | (go_at_call 98; refine (HEL.out wr j (by omega) HBR.out).mono ?_
                   rintro e W9 ⟨hb9, ⟨_, rfl⟩ | ⟨q, _⟩⟩
                   rotate_left
                   · rw [HE0.out] at q
                     cases q
                   have HB9 := Lib.hid hb9
                   clear hb9))
              go_roundw
              case rel =>
                refine ⟨j + 1, by go_num, .inr (by omega), Lib.hid (HBR.out.trans (HB9.out.mono HBR.out.size)), Lib.hid fun k hk => ?_⟩
                rcases (by omega : k < j ∨ k = j) with q | rfl
                · exact HALL.out k q
                · exact HE0.out
              case measure => (simp [intOf]) <;> omega
          · have HFI4 : Hid (fitAt S i c.1 mk x = some mk) := Lib.hid (HFI2.out.trans (if_pos (List.all_eq_true.2 fun k hk => HALL.out k (by have := List.mem_range.1 hk; omega))))
            go_wp2_with fail
            go_end0
            exact .inl ⟨mk, HFI4.out, rfl, MkTo.same HM.out.ad HRW.out (HBW8.out.trans (HBR.out.mono HBW8.out.size))⟩
      · rw [dF h2] at hk2
        have HFI2 := Lib.hid (HFI.out.trans (if_neg h2))
        clear h2
        by_cases h1 : x.1 = 1
        · rw [dT h1] at hk1
          have HFI3 := Lib.hid (HFI2.out.trans (if_pos h1))
          clear h1
          have HRA8 := Lib.hid (show W8.rangeAt b3 34 (refV x.2.2.1) from fun j u hj => (cells_at0 HEA.out.po (34 + j)).trans ((op_cells HX.out).2.2.1 j u hj))
          have HRD8 := Lib.hid (show W8.rangeAt b3 1 (refV x.2.1) from fun j u hj => (cells_at0 HEA.out.po (1 + j)).trans ((op_cells HX.out).2.1 j u hj))
          have HOKT : Hid (okFrom x.2.2.2.1 0) := Lib.hid htt
          by_cases hat : x.2.2.1 = x.2.1
          · have EQ := Lib.hid (fun (u : World) => (run_eqRef HX.out.1.2.1 HX.out.1.1 u).trans (by rw [dT hat]))
            have HFI4 := Lib.hid (HFI3.out.trans (if_pos (.inl hat)))
            clear hat
            go_upto_region 17 with (first
              | (with_reducible refine at_load ?_
                 refine wp_val (by rfl) (ex_load 110 _ rfl (p := ⟨b3, 34, none⟩) rfl (qV _ b3 34 _ (refV x.2.2.1) _ HRA8.out Tryz.underlying110 rfl (by rw [refV_length HX.out.1.2.1]; kernel_rfl))) ?_
                 go_frame)
              | (with_reducible refine at_load ?_
                 refine wp_val (by rfl) (ex_load 110 _ rfl (p := ⟨b3, 1, none⟩) rfl (qV _ b3 1 _ (refV x.2.1) _ HRD8.out Tryz.underlying110 rfl (by rw [refV_length HX.out.1.1]; kernel_rfl))) ?_
                 go_frame)
              | (with_reducible refine at_binOp ?_
                 refine wp_val (by rfl) (ex_neq 110 _ _ _ rfl (xs := (refV x.2.2.1).toArray) (ys := (refV x.2.1).toArray) (r := true) rfl rfl eqRef.noGuard (EQ.out _)) ?_
                 go_frame; try simp only [nTF]))
            obtain ⟨W9, hW9⟩ : ∃ z, W8 = z := ⟨_, rfl⟩
            rw [hW9] at HM8 HRW8 HEA HBW8 ⊢
            have HM9 := Lib.hid HM8.out; have HRW9 := Lib.hid HRW8.out; have HEA9 := Lib.hid HEA.out; have HBW9 := Lib.hid HBW8.out
            clear hW9 k0 k67 k68 hk1 hk2 HEL HM8 HRW8 HEA HBW8 HRA8 HRD8 HB18 HFI HFI2 HFI3 EQ
            generalize x.2.2.2.1 = str at *
            obtain ⟨zi, hzi⟩ : ∃ zi, W9.heap.size = zi := ⟨_, rfl⟩
            have HZI := Lib.hid hzi
            have HITER : Hid ((W9.iter str 0).heap[zi]? = some (.stringIter str 0)) := Lib.hid (by rw [← hzi]; simpa using World.iter_heap W9 str 0)
            have HBI : Hid (Below W9.heap.size W9 (W9.iter str 0)) := Lib.hid ((qB _ _).alloc (qR _) _)
            rw [hzi]
            clear hzi
            generalize W9.iter str 0 = Wi at *
            have HVB := Lib.hid (show ∀ k, (Value.slice Am mk.length cm).ownBlock = some k → k < w.heap.size from fun k hk => (HRW.out.lt k hk).2)
            go_loopw [56] (fun _ wr => ∃ (pos : Nat) (l : List Nat) (Av : Option Addr) (cv : Nat), pos ≤ str.size ∧ l.length ≤ pos ∧ Hid (wr.heap[zi]? = some (.stringIter str pos)) ∧ Hid (okFrom str pos) ∧ Hid (runesOf str = (runesAt str pos).map (l ++ ·)) ∧ Hid (But (fun k => k = a ∨ (Value.slice Am mk.length cm).ownBlock = some k) W9 wr) ∧ Hid (AdderAt wr a s i c dv ov (.slice Av (mk.length + l.length) cv)) ∧ Hid (wr.ownsRow B0 199 35 (.slice Av (mk.length + l.length) cv) (mk.length + l.length) (rowsV makeV (mk ++ List.replicate l.length (false, ky)))) ∧ Hid (Newer W9 (.slice Am mk.length cm) (.slice Av (mk.length + l.length) cv)) ∧ Hid (ElemAt wr b2 b3 b4 a x ky)) (fun _ wr => str.size - wr.iterPos zi)
            case atStart =>
              exact ⟨0, [], Am, cm, Nat.zero_le _, Nat.le_refl _, HITER, HOKT, Lib.hid (by rw [runesOf_eq]; simp), Lib.hid (But.of_below HBI.out), Lib.hid (HM9.out.ad.keep HBI.out), Lib.hid (by simpa using (But.of_below (X := NoB) HBI.out).own HRW9.out fun _ _ q => q), Lib.hid (Newer.refl _ _), Lib.hid (HEA9.out.keep HBI.out)⟩
            case round =>
              obtain ⟨pos, l, Av, cv, hpos, hl, HIT, HOK, HRU, HBT, HAD, HOW, HNW, HEA⟩ := hrel
              by_cases hlt : pos < str.size
              · have hnx : ∀ ty, (Instr.next (.pointer (some ⟨zi, 0, none⟩)) true ty).run Tryz.prog wr = _ := fun ty => Lib.run_next_any_at wr zi str pos ty HIT.out hlt
                have hin := dec_in hlt
                obtain ⟨ho, hnk⟩ := HOK.out.at_ hlt
                have HO := Lib.hid ho
                have HOK2 := Lib.hid hnk
                have hdl := decode_le str pos
                have HIT2 := Lib.hid (Lib.iterAt_heap wr zi str pos (pos + (Utf8.decode str pos).2) HIT.out)
                have hgb : wr.grownBy (wr.iterAt zi str (pos + (Utf8.decode str pos).2)) (some zi) := ⟨rfl, rfl, rfl, by rw [Lib.iterAt_size]; exact Nat.le_refl _, fun k hk hne => Lib.iterAt_other _ _ _ _ _ (fun e => hne (by rw [e]))⟩
                have HAD2 : Hid (AdderAt (wr.iterAt zi str (pos + (Utf8.decode str pos).2)) a s i c dv ov (.slice Av (mk.length + l.length) cv)) := Lib.hid ⟨(hgb.block a (qX HAD.out.box) fun e => (by cases e; have := HAD.out.box; rw [HIT.out] at this; cases this)).trans HAD.out.box, HAD.out.id⟩
                have HOW2 := Lib.hid (own_iterAt HOW.out HIT.out (pos + (Utf8.decode str pos).2))
                have HEA2 : Hid (ElemAt (wr.iterAt zi str (pos + (Utf8.decode str pos).2)) b2 b3 b4 a x ky) := Lib.hid (HEA.out.grown hgb fun e cur t h => by subst e; rw [HIT.out] at h; cases h)
                have HBT2 : Hid (But (fun k => k = a ∨ (Value.slice Am mk.length cm).ownBlock = some k) W9 (wr.iterAt zi str (pos + (Utf8.decode str pos).2))) := Lib.hid (HBT.out.grown hgb fun k e hk => (by cases e; have := HZI.out; omega))
                have HSZ : Hid (wr.heap.size ≤ (wr.iterAt zi str (pos + (Utf8.decode str pos).2)).heap.size) := Lib.hid hgb.size
                clear ho hnk hgb
                generalize hW2 : wr.iterAt zi str (pos + (Utf8.decode str pos).2) = Wn at *
                clear hW2
                go_upto_region 18 with fail
                have HVN := Lib.hid (show (Value.slice Av (mk.length + l.length) cv).ownBlock ≠ some a from fun e => by
                  obtain ⟨cc, hcc⟩ := own_tagged HOW2.out e
                  exact ne_tag hcc HAD2.out.box (by decide) rfl)
                have HBZ : Hid (B0 ≤ Wn.heap.size) := Lib.hid (qT hB0 (qT HBW9.out.size HBT2.out.size))
                have HF : Hid (∀ u : World, But (fun k => (Value.slice Av (mk.length + l.length) cv).ownBlock = some k) Wn u → u.cell? ⟨b2, 0, none⟩ = some (.pointer (some ⟨a, 0, none⟩)) ∧ u.cell? ⟨a, 37, none⟩ = some (.slice Av (mk.length + l.length) cv) ∧ u.rangeAt b4 0 (keyV ky)) := Lib.hid fun u hu => by
                  refine ⟨(hu.cell (g := b2) (j := 0) (qX HEA2.out.pa) fun e => ?_).trans (cells_at0 HEA2.out.pa 0), (hu.cell (g := a) (j := 37) (qX HAD2.out.box) HVN.out).trans (HAD2.out.rest 4), fun j v hj => ?_⟩
                  · obtain ⟨cc, hcc⟩ := own_tagged HOW2.out e
                    exact ne_tag hcc HEA2.out.pa (by decide) rfl
                  · rw [qZ]
                    refine (hu.cell (g := b4) (j := j) (qX HEA2.out.pd) fun e => ?_).trans ((cells_at0 HEA2.out.pd j).trans hj)
                    obtain ⟨cc, hcc⟩ := own_tagged HOW2.out e
                    exact ne_tag hcc HEA2.out.pd (by decide) rfl
                refine rN 11 (fun u => But (fun k => (Value.slice Av (mk.length + l.length) cv).ownBlock = some k) Wn u) (But.of_below (qD _ _)) fun hF0 => ?_
                refine tl 0 (.pointer (some ⟨a, 0, none⟩)) rfl hF0 (fun w' hw' => l1 Tryz.underlying125 (HF.out w' hw').1) ?_
                go_frame
                refine tl 1 (.pointer (some ⟨a, 0, none⟩)) rfl hF0 (fun w' hw' => l1 Tryz.underlying125 (HF.out w' hw').1) ?_
                go_frame
                refine tw 2 (.pointer (some ⟨a, 0, none⟩)) ?_
                go_frame
                refine tw 3 (.pointer (some ⟨a, 37, none⟩)) ?_
                go_frame
                refine tl 4 (.slice Av (mk.length + l.length) cv) rfl hF0 (fun w' hw' => l1 Tryz.underlying103 (HF.out w' hw').2.1) ?_
                go_frame
                refine tl 5 (.agg (keyV ky).toArray) rfl hF0 (fun w' hw' => ldK HKY.out (HF.out w' hw').2.2) ?_
                go_frame
                refine tk 6 (.agg (makeV (false, ky)).toArray) rfl (fun w' hw' => ex_build 199 _ rfl (by simp only [List.map_toArray, List.map_cons, List.map_nil]; exact make_builtF ky HKY.out _)) ?_
                go_frame
                refine ta 7 ?_
                refine wpOp_val _ rfl (by kernel_rfl) (ex_build1N 103 _ rfl 199 Tryz.underlying103 (.agg makeZ.toArray) 35 56 infoMake15 rfl (by decide) (by decide) (makeV (false, ky)) (makeV_length (m := (false, ky)) HKY.out) rfl) ?_
                have HBA := Lib.hid ((qD Wn.heap.size Wn).alloc (qR _) (.cells (makeV (false, ky)).toArray 199))
                refine ⟨fun _ _ => But.of_below HBA.out, ?_⟩
                go_frame
                refine ta 8 ?_
                refine wpOp_wp _ rfl (by kernel_rfl) ?_
                refine op_appW _ _ 103 rfl B0 199 (.agg makeZ.toArray) 35 56 Tryz.underlying103 infoMake15 rfl (by decide) (.slice Av (mk.length + l.length) cv) (mk.length + l.length) (rowsV makeV (mk ++ List.replicate l.length (false, ky))) rfl ((But.of_below (X := NoB) HBA.out).own HOW2.out fun _ _ q => q) ⟨Wn.drew.heap.size, 0, none⟩ 1 1 (makeV (false, ky)) rfl (by rw [(makeV_length (m := (false, ky)) HKY.out)]) (news_cells Wn.drew _ _) (makeV_one _) (by unfold maxLen; omega) (by omega) (by have := HBZ.out; have := HBA.out.size; omega) ?_
                intro v9 w9 ho9 hg9 hw9
                have HB9 : Hid (But (fun k => (Value.slice Av (mk.length + l.length) cv).ownBlock = some k) Wn w9) := Lib.hid ((But.of_below HBA.out).grown hg9 fun k e _ => e)
                have HO9 := Lib.hid ho9
                have HN9 : Hid (Newer Wn (.slice Av (mk.length + l.length) cv) v9) := Lib.hid fun k hk => by
                  rcases hw9 with e | ⟨g, e, hz⟩
                  · left
                    rw [← e]; exact hk
                  · right
                    rw [e] at hk
                    have e2 : g = k := by simpa using hk
                    subst e2
                    have h1 := HBA.out.size
                    omega
                have HA9 := Lib.hid ((HB9.out.block a (qX HAD2.out.box) HVN.out).trans HAD2.out.box)
                obtain ⟨A9, c9, rfl⟩ := own_form ho9
                clear ho9 hg9 hw9
                refine ⟨fun _ _ => HB9.out, ?_⟩
                go_frame
                refine tw 9 (.pointer (some ⟨a, 0, none⟩)) ?_
                go_frame
                refine tw 10 (.pointer (some ⟨a, 37, none⟩)) ?_
                go_frame
                obtain ⟨pre, hpl, hpa, hpn⟩ := (AdderAt.mk (dv := dv) (ov := ov) (c := c) HA9.out HAD2.out.id).put (w' := w9) (v2 := .slice A9 ((mk.length + l.length) + 1) c9)
                have HPA := Lib.hid hpa; have HPN := Lib.hid hpn
                clear hpa hpn
                refine ta 11 ?_
                refine wpOp_storeM _ rfl (by kernel_rfl) 103 _ _ rfl a 37 pre [.slice Av (mk.length + l.length) cv] [] [.slice A9 ((mk.length + l.length) + 1) c9] 127 (.slice A9 ((mk.length + l.length) + 1) c9) rfl hpl.symm rfl rfl HPA.out rfl (by kernel_rfl) (by intro u hu; rw [List.mem_singleton.1 hu]; rfl) ?_
                intro W2 hb2 hy2 hs2
                have HB2 := Lib.hid hb2; have HYA2 := Lib.hid hy2
                clear hb2 hy2 hs2
                refine ⟨fun h => absurd h (by decide), ?_⟩
                go_frame
                refine wpAnyN_done (by kernel_rfl) ?_ _
                go_wp2_with fail
                have hX : ∀ k, (k = a ∨ (Value.slice Av (mk.length + l.length) cv).ownBlock = some k) → k < W9.heap.size → (k = a ∨ (Value.slice Am mk.length cm).ownBlock = some k) := fun k hk hs => by
                  rcases hk with hk | hk
                  · exact .inl hk
                  · rcases HNW.out k hk with e | e
                    · exact .inr e
                    · omega
                have hbt : But (fun k => k = a ∨ (Value.slice Av (mk.length + l.length) cv).ownBlock = some k) Wn W2 := (HB9.out.weak fun _ _ h => .inr h).trans HB2.out fun k hk e => .inl e
                have ho2 : W2.ownsRow B0 199 35 (.slice A9 (mk.length + l.length + 1) c9) (mk.length + l.length + 1) (rowsV makeV (mk ++ List.replicate l.length (false, ky)) ++ makeV (false, ky)) := HB2.out.own HO9.out fun g hg e => by
                  obtain ⟨cur, hcur⟩ := own_tagged HO9.out hg
                  have e2 : g = a := e
                  subst e2
                  exact ne_tag hcur HA9.out (by decide) rfl
                have hne : zi ≠ a := fun e => by
                  have h1 := HIT2.out
                  rw [e, HAD2.out.box] at h1
                  cases h1
                have hit3 : W2.heap[zi]? = some (.stringIter str (pos + (Utf8.decode str pos).2)) := (hbt.block zi (qX HIT2.out) fun e => by
                  rcases e with e | e
                  · exact hne e
                  · obtain ⟨cc, hcc⟩ := own_tagged HOW2.out e
                    rw [HIT2.out] at hcc
                    cases hcc).trans HIT2.out
                have HIT3 := Lib.hid hit3
                have hea3 : ElemAt W2 b2 b3 b4 a x ky := HEA2.out.but hbt fun k hk => by
                  rcases hk with rfl | hk
                  · exact ⟨_, _, HAD2.out.box, .inl rfl⟩
                  · obtain ⟨cc, hcc⟩ := own_tagged HOW2.out hk
                    exact ⟨cc, _, hcc, .inr rfl⟩
                go_roundw
                case rel =>
                  refine ⟨pos + (Utf8.decode str pos).2, l ++ [(Utf8.decode str pos).1], A9, c9, by omega, by simp; omega, HIT3, HOK2, Lib.hid ?_, Lib.hid (HBT2.out.trans hbt fun k hk hx => hX k hx hk), Lib.hid ?_, Lib.hid ?_, Lib.hid fun k hk => ?_, Lib.hid hea3⟩
                  · rw [HRU.out, runesAt_ok hlt HO.out]
                    cases runesAt str (pos + (Utf8.decode str pos).2) <;> simp
                  · rw [List.length_append, List.length_singleton, ← Nat.add_assoc]
                    exact HPN.out W2 HYA2.out
                  · rw [List.length_append, List.length_singleton, ← Nat.add_assoc, List.replicate_succ', ← List.append_assoc, rowsV_snocM]
                    exact ho2
                  · rw [List.length_append, List.length_singleton, ← Nat.add_assoc] at hk
                    rcases HN9.out k hk with e | e
                    · exact HNW.out k e
                    · exact .inr (qT HBT2.out.size e)
                case measure =>
                  simp only [World.iterPos, HIT3.out, HIT.out]
                  omega
              · have hnx : ∀ ty, (Instr.next (.pointer (some ⟨zi, 0, none⟩)) true ty).run Tryz.prog wr = _ := fun ty => Lib.run_next_end_at wr zi str pos ty HIT.out hlt
                go_wp2_with fail
                go_end0
                have hrn : runesN str = l.length := by
                  unfold runesN
                  rw [HRU.out, runesAt_end (by omega)]
                  simp
                refine .inl ⟨mk ++ List.replicate l.length (false, ky), by rw [← hrn]; exact HFI4.out, rfl, (But.of_below HBW9.out).trans HBT.out fun k hk hx => hx, Av, cv, ?_, ?_, fun k hk => ?_⟩
                · rw [List.length_append, List.length_replicate]
                  exact HAD.out
                · rw [List.length_append, List.length_replicate]
                  exact HOW.out
                · rw [List.length_append, List.length_replicate] at hk
                  rcases HNW.out k hk with e | e
                  · exact .inl e
                  · exact .inr (qT HBW9.out.size e)
          · have EQ := Lib.hid (fun (u : World) => (run_eqRef HX.out.1.2.1 HX.out.1.1 u).trans (by rw [dF hat]))
            cases hel : elemAt S i c.1 mk x 0
            · have HFI4 := Lib.hid (HFI3.out.trans (if_neg (by rintro (q | q); exact hat q; rw [hel] at q; cases q)))
              have HE0 := Lib.hid hel
              clear hat hel
              go_wp2_with (first
                | (with_reducible refine at_load ?_
                   refine wp_val (by rfl) (ex_load 110 _ rfl (p := ⟨b3, 34, none⟩) rfl (qV _ b3 34 _ (refV x.2.2.1) _ HRA8.out Tryz.underlying110 rfl (by rw [refV_length HX.out.1.2.1]; kernel_rfl))) ?_
                   go_frame)
                | (with_reducible refine at_load ?_
                   refine wp_val (by rfl) (ex_load 110 _ rfl (p := ⟨b3, 1, none⟩) rfl (qV _ b3 1 _ (refV x.2.1) _ HRD8.out Tryz.underlying110 rfl (by rw [refV_length HX.out.1.1]; kernel_rfl))) ?_
                   go_frame)
                | (with_reducible refine at_binOp ?_
                   refine wp_val (by rfl) (ex_neq 110 _ _ _ rfl (xs := (refV x.2.2.1).toArray) (ys := (refV x.2.1).toArray) (r := false) rfl rfl eqRef.noGuard (EQ.out _)) ?_
                   go_frame; try simp only [nTF])
                | (go_at_call 98; refine (HEL.out W8 0 (by omega) (qB _ _)).mono ?_
                   rintro e W9 ⟨hb9, ⟨q, _⟩ | ⟨_, rfl⟩⟩
                   · rw [HE0.out] at q
                     cases q
                   have HB9 := Lib.hid hb9
                   clear hb9))
              exact ⟨rfl, .inr ⟨HFI4.out, rfl, HBW8.out.trans (HB9.out.mono HBW8.out.size)⟩⟩
            · have HFI4 := Lib.hid (HFI3.out.trans (if_pos (.inr hel)))
              have HE0 := Lib.hid hel
              clear hat hel
              go_upto_region 16 with (first
                | (with_reducible refine at_load ?_
                   refine wp_val (by rfl) (ex_load 110 _ rfl (p := ⟨b3, 34, none⟩) rfl (qV _ b3 34 _ (refV x.2.2.1) _ HRA8.out Tryz.underlying110 rfl (by rw [refV_length HX.out.1.2.1]; kernel_rfl))) ?_
                   go_frame)
                | (with_reducible refine at_load ?_
                   refine wp_val (by rfl) (ex_load 110 _ rfl (p := ⟨b3, 1, none⟩) rfl (qV _ b3 1 _ (refV x.2.1) _ HRD8.out Tryz.underlying110 rfl (by rw [refV_length HX.out.1.1]; kernel_rfl))) ?_
                   go_frame)
                | (with_reducible refine at_binOp ?_
                   refine wp_val (by rfl) (ex_neq 110 _ _ _ rfl (xs := (refV x.2.2.1).toArray) (ys := (refV x.2.1).toArray) (r := false) rfl rfl eqRef.noGuard (EQ.out _)) ?_
                   go_frame; try simp only [nTF])
                | (go_at_call 98; refine (HEL.out W8 0 (by omega) (qB _ _)).mono ?_
                   rintro e W9 ⟨hb9, ⟨_, rfl⟩ | ⟨q, _⟩⟩
                   rotate_left
                   · rw [HE0.out] at q
                     cases q
                   have HB9 := Lib.hid hb9
                   clear hb9))
              clear k67
              have k67 : W9.cell? ⟨b3, 67, none⟩ = some (.string x.2.2.2.1) := (cells_at0 ((HB9.out.block b3 (qX HEA.out.po)).trans HEA.out.po) 67).trans (op_cells HX.out).2.2.2.1
              go_upto_region 17 with fail
              have HBW9 : Hid (Below w.heap.size w W9) := Lib.hid (HBW8.out.trans (HB9.out.mono HBW8.out.size))
              have HM9 := Lib.hid (HM8.out.keep HB9.out)
              have HRW9 := Lib.hid ((But.of_below (X := NoB) HB9.out).own HRW8.out fun _ _ q => q)
              have HEA9 := Lib.hid (HEA.out.keep HB9.out)
              clear k0 k67 k68 hk1 hk2 HEL HM8 HRW8 HEA HBW8 HRA8 HRD8 HB18 HFI HFI2 HFI3 EQ
              generalize x.2.2.2.1 = str at *
              obtain ⟨zi, hzi⟩ : ∃ zi, W9.heap.size = zi := ⟨_, rfl⟩
              have HZI := Lib.hid hzi
              have HITER : Hid ((W9.iter str 0).heap[zi]? = some (.stringIter str 0)) := Lib.hid (by rw [← hzi]; simpa using World.iter_heap W9 str 0)
              have HBI : Hid (Below W9.heap.size W9 (W9.iter str 0)) := Lib.hid ((qB _ _).alloc (qR _) _)
              rw [hzi]
              clear hzi
              generalize W9.iter str 0 = Wi at *
              have HVB := Lib.hid (show ∀ k, (Value.slice Am mk.length cm).ownBlock = some k → k < w.heap.size from fun k hk => (HRW.out.lt k hk).2)
              go_loopw [56] (fun _ wr => ∃ (pos : Nat) (l : List Nat) (Av : Option Addr) (cv : Nat), pos ≤ str.size ∧ l.length ≤ pos ∧ Hid (wr.heap[zi]? = some (.stringIter str pos)) ∧ Hid (okFrom str pos) ∧ Hid (runesOf str = (runesAt str pos).map (l ++ ·)) ∧ Hid (But (fun k => k = a ∨ (Value.slice Am mk.length cm).ownBlock = some k) W9 wr) ∧ Hid (AdderAt wr a s i c dv ov (.slice Av (mk.length + l.length) cv)) ∧ Hid (wr.ownsRow B0 199 35 (.slice Av (mk.length + l.length) cv) (mk.length + l.length) (rowsV makeV (mk ++ List.replicate l.length (false, ky)))) ∧ Hid (Newer W9 (.slice Am mk.length cm) (.slice Av (mk.length + l.length) cv)) ∧ Hid (ElemAt wr b2 b3 b4 a x ky)) (fun _ wr => str.size - wr.iterPos zi)
              case atStart =>
                exact ⟨0, [], Am, cm, Nat.zero_le _, Nat.le_refl _, HITER, HOKT, Lib.hid (by rw [runesOf_eq]; simp), Lib.hid (But.of_below HBI.out), Lib.hid (HM9.out.ad.keep HBI.out), Lib.hid (by simpa using (But.of_below (X := NoB) HBI.out).own HRW9.out fun _ _ q => q), Lib.hid (Newer.refl _ _), Lib.hid (HEA9.out.keep HBI.out)⟩
              case round =>
                obtain ⟨pos, l, Av, cv, hpos, hl, HIT, HOK, HRU, HBT, HAD, HOW, HNW, HEA⟩ := hrel
                by_cases hlt : pos < str.size
                · have hnx : ∀ ty, (Instr.next (.pointer (some ⟨zi, 0, none⟩)) true ty).run Tryz.prog wr = _ := fun ty => Lib.run_next_any_at wr zi str pos ty HIT.out hlt
                  have hin := dec_in hlt
                  obtain ⟨ho, hnk⟩ := HOK.out.at_ hlt
                  have HO := Lib.hid ho
                  have HOK2 := Lib.hid hnk
                  have hdl := decode_le str pos
                  have HIT2 := Lib.hid (Lib.iterAt_heap wr zi str pos (pos + (Utf8.decode str pos).2) HIT.out)
                  have hgb : wr.grownBy (wr.iterAt zi str (pos + (Utf8.decode str pos).2)) (some zi) := ⟨rfl, rfl, rfl, by rw [Lib.iterAt_size]; exact Nat.le_refl _, fun k hk hne => Lib.iterAt_other _ _ _ _ _ (fun e => hne (by rw [e]))⟩
                  have HAD2 : Hid (AdderAt (wr.iterAt zi str (pos + (Utf8.decode str pos).2)) a s i c dv ov (.slice Av (mk.length + l.length) cv)) := Lib.hid ⟨(hgb.block a (qX HAD.out.box) fun e => (by cases e; have := HAD.out.box; rw [HIT.out] at this; cases this)).trans HAD.out.box, HAD.out.id⟩
                  have HOW2 := Lib.hid (own_iterAt HOW.out HIT.out (pos + (Utf8.decode str pos).2))
                  have HEA2 : Hid (ElemAt (wr.iterAt zi str (pos + (Utf8.decode str pos).2)) b2 b3 b4 a x ky) := Lib.hid (HEA.out.grown hgb fun e cur t h => by subst e; rw [HIT.out] at h; cases h)
                  have HBT2 : Hid (But (fun k => k = a ∨ (Value.slice Am mk.length cm).ownBlock = some k) W9 (wr.iterAt zi str (pos + (Utf8.decode str pos).2))) := Lib.hid (HBT.out.grown hgb fun k e hk => (by cases e; have := HZI.out; omega))
                  have HSZ : Hid (wr.heap.size ≤ (wr.iterAt zi str (pos + (Utf8.decode str pos).2)).heap.size) := Lib.hid hgb.size
                  clear ho hnk hgb
                  generalize hW2 : wr.iterAt zi str (pos + (Utf8.decode str pos).2) = Wn at *
                  clear hW2
                  go_upto_region 18 with fail
                  have HVN := Lib.hid (show (Value.slice Av (mk.length + l.length) cv).ownBlock ≠ some a from fun e => by
                    obtain ⟨cc, hcc⟩ := own_tagged HOW2.out e
                    exact ne_tag hcc HAD2.out.box (by decide) rfl)
                  have HBZ : Hid (B0 ≤ Wn.heap.size) := Lib.hid (qT hB0 (qT HBW9.out.size HBT2.out.size))
                  have HF : Hid (∀ u : World, But (fun k => (Value.slice Av (mk.length + l.length) cv).ownBlock = some k) Wn u → u.cell? ⟨b2, 0, none⟩ = some (.pointer (some ⟨a, 0, none⟩)) ∧ u.cell? ⟨a, 37, none⟩ = some (.slice Av (mk.length + l.length) cv) ∧ u.rangeAt b4 0 (keyV ky)) := Lib.hid fun u hu => by
                    refine ⟨(hu.cell (g := b2) (j := 0) (qX HEA2.out.pa) fun e => ?_).trans (cells_at0 HEA2.out.pa 0), (hu.cell (g := a) (j := 37) (qX HAD2.out.box) HVN.out).trans (HAD2.out.rest 4), fun j v hj => ?_⟩
                    · obtain ⟨cc, hcc⟩ := own_tagged HOW2.out e
                      exact ne_tag hcc HEA2.out.pa (by decide) rfl
                    · rw [qZ]
                      refine (hu.cell (g := b4) (j := j) (qX HEA2.out.pd) fun e => ?_).trans ((cells_at0 HEA2.out.pd j).trans hj)
                      obtain ⟨cc, hcc⟩ := own_tagged HOW2.out e
                      exact ne_tag hcc HEA2.out.pd (by decide) rfl
                  refine rN 11 (fun u => But (fun k => (Value.slice Av (mk.length + l.length) cv).ownBlock = some k) Wn u) (But.of_below (qD _ _)) fun hF0 => ?_
                  refine tl 0 (.pointer (some ⟨a, 0, none⟩)) rfl hF0 (fun w' hw' => l1 Tryz.underlying125 (HF.out w' hw').1) ?_
                  go_frame
                  refine tl 1 (.pointer (some ⟨a, 0, none⟩)) rfl hF0 (fun w' hw' => l1 Tryz.underlying125 (HF.out w' hw').1) ?_
                  go_frame
                  refine tw 2 (.pointer (some ⟨a, 0, none⟩)) ?_
                  go_frame
                  refine tw 3 (.pointer (some ⟨a, 37, none⟩)) ?_
                  go_frame
                  refine tl 4 (.slice Av (mk.length + l.length) cv) rfl hF0 (fun w' hw' => l1 Tryz.underlying103 (HF.out w' hw').2.1) ?_
                  go_frame
                  refine tl 5 (.agg (keyV ky).toArray) rfl hF0 (fun w' hw' => ldK HKY.out (HF.out w' hw').2.2) ?_
                  go_frame
                  refine tk 6 (.agg (makeV (false, ky)).toArray) rfl (fun w' hw' => ex_build 199 _ rfl (by simp only [List.map_toArray, List.map_cons, List.map_nil]; exact make_builtF ky HKY.out _)) ?_
                  go_frame
                  refine ta 7 ?_
                  refine wpOp_val _ rfl (by kernel_rfl) (ex_build1N 103 _ rfl 199 Tryz.underlying103 (.agg makeZ.toArray) 35 56 infoMake15 rfl (by decide) (by decide) (makeV (false, ky)) (makeV_length (m := (false, ky)) HKY.out) rfl) ?_
                  have HBA := Lib.hid ((qD Wn.heap.size Wn).alloc (qR _) (.cells (makeV (false, ky)).toArray 199))
                  refine ⟨fun _ _ => But.of_below HBA.out, ?_⟩
                  go_frame
                  refine ta 8 ?_
                  refine wpOp_wp _ rfl (by kernel_rfl) ?_
                  refine op_appW _ _ 103 rfl B0 199 (.agg makeZ.toArray) 35 56 Tryz.underlying103 infoMake15 rfl (by decide) (.slice Av (mk.length + l.length) cv) (mk.length + l.length) (rowsV makeV (mk ++ List.replicate l.length (false, ky))) rfl ((But.of_below (X := NoB) HBA.out).own HOW2.out fun _ _ q => q) ⟨Wn.drew.heap.size, 0, none⟩ 1 1 (makeV (false, ky)) rfl (by rw [(makeV_length (m := (false, ky)) HKY.out)]) (news_cells Wn.drew _ _) (makeV_one _) (by unfold maxLen; omega) (by omega) (by have := HBZ.out; have := HBA.out.size; omega) ?_
                  intro v9 w9 ho9 hg9 hw9
                  have HB9 : Hid (But (fun k => (Value.slice Av (mk.length + l.length) cv).ownBlock = some k) Wn w9) := Lib.hid ((But.of_below HBA.out).grown hg9 fun k e _ => e)
                  have HO9 := Lib.hid ho9
                  have HN9 : Hid (Newer Wn (.slice Av (mk.length + l.length) cv) v9) := Lib.hid fun k hk => by
                    rcases hw9 with e | ⟨g, e, hz⟩
                    · left
                      rw [← e]; exact hk
                    · right
                      rw [e] at hk
                      have e2 : g = k := by simpa using hk
                      subst e2
                      have h1 := HBA.out.size
                      omega
                  have HA9 := Lib.hid ((HB9.out.block a (qX HAD2.out.box) HVN.out).trans HAD2.out.box)
                  obtain ⟨A9, c9, rfl⟩ := own_form ho9
                  clear ho9 hg9 hw9
                  refine ⟨fun _ _ => HB9.out, ?_⟩
                  go_frame
                  refine tw 9 (.pointer (some ⟨a, 0, none⟩)) ?_
                  go_frame
                  refine tw 10 (.pointer (some ⟨a, 37, none⟩)) ?_
                  go_frame
                  obtain ⟨pre, hpl, hpa, hpn⟩ := (AdderAt.mk (dv := dv) (ov := ov) (c := c) HA9.out HAD2.out.id).put (w' := w9) (v2 := .slice A9 ((mk.length + l.length) + 1) c9)
                  have HPA := Lib.hid hpa; have HPN := Lib.hid hpn
                  clear hpa hpn
                  refine ta 11 ?_
                  refine wpOp_storeM _ rfl (by kernel_rfl) 103 _ _ rfl a 37 pre [.slice Av (mk.length + l.length) cv] [] [.slice A9 ((mk.length + l.length) + 1) c9] 127 (.slice A9 ((mk.length + l.length) + 1) c9) rfl hpl.symm rfl rfl HPA.out rfl (by kernel_rfl) (by intro u hu; rw [List.mem_singleton.1 hu]; rfl) ?_
                  intro W2 hb2 hy2 hs2
                  have HB2 := Lib.hid hb2; have HYA2 := Lib.hid hy2
                  clear hb2 hy2 hs2
                  refine ⟨fun h => absurd h (by decide), ?_⟩
                  go_frame
                  refine wpAnyN_done (by kernel_rfl) ?_ _
                  go_wp2_with fail
                  have hX : ∀ k, (k = a ∨ (Value.slice Av (mk.length + l.length) cv).ownBlock = some k) → k < W9.heap.size → (k = a ∨ (Value.slice Am mk.length cm).ownBlock = some k) := fun k hk hs => by
                    rcases hk with hk | hk
                    · exact .inl hk
                    · rcases HNW.out k hk with e | e
                      · exact .inr e
                      · omega
                  have hbt : But (fun k => k = a ∨ (Value.slice Av (mk.length + l.length) cv).ownBlock = some k) Wn W2 := (HB9.out.weak fun _ _ h => .inr h).trans HB2.out fun k hk e => .inl e
                  have ho2 : W2.ownsRow B0 199 35 (.slice A9 (mk.length + l.length + 1) c9) (mk.length + l.length + 1) (rowsV makeV (mk ++ List.replicate l.length (false, ky)) ++ makeV (false, ky)) := HB2.out.own HO9.out fun g hg e => by
                    obtain ⟨cur, hcur⟩ := own_tagged HO9.out hg
                    have e2 : g = a := e
                    subst e2
                    exact ne_tag hcur HA9.out (by decide) rfl
                  have hne : zi ≠ a := fun e => by
                    have h1 := HIT2.out
                    rw [e, HAD2.out.box] at h1
                    cases h1
                  have hit3 : W2.heap[zi]? = some (.stringIter str (pos + (Utf8.decode str pos).2)) := (hbt.block zi (qX HIT2.out) fun e => by
                    rcases e with e | e
                    · exact hne e
                    · obtain ⟨cc, hcc⟩ := own_tagged HOW2.out e
                      rw [HIT2.out] at hcc
                      cases hcc).trans HIT2.out
                  have HIT3 := Lib.hid hit3
                  have hea3 : ElemAt W2 b2 b3 b4 a x ky := HEA2.out.but hbt fun k hk => by
                    rcases hk with rfl | hk
                    · exact ⟨_, _, HAD2.out.box, .inl rfl⟩
                    · obtain ⟨cc, hcc⟩ := own_tagged HOW2.out hk
                      exact ⟨cc, _, hcc, .inr rfl⟩
                  go_roundw
                  case rel =>
                    refine ⟨pos + (Utf8.decode str pos).2, l ++ [(Utf8.decode str pos).1], A9, c9, by omega, by simp; omega, HIT3, HOK2, Lib.hid ?_, Lib.hid (HBT2.out.trans hbt fun k hk hx => hX k hx hk), Lib.hid ?_, Lib.hid ?_, Lib.hid fun k hk => ?_, Lib.hid hea3⟩
                    · rw [HRU.out, runesAt_ok hlt HO.out]
                      cases runesAt str (pos + (Utf8.decode str pos).2) <;> simp
                    · rw [List.length_append, List.length_singleton, ← Nat.add_assoc]
                      exact HPN.out W2 HYA2.out
                    · rw [List.length_append, List.length_singleton, ← Nat.add_assoc, List.replicate_succ', ← List.append_assoc, rowsV_snocM]
                      exact ho2
                    · rw [List.length_append, List.length_singleton, ← Nat.add_assoc] at hk
                      rcases HN9.out k hk with e | e
                      · exact HNW.out k e
                      · exact .inr (qT HBT2.out.size e)
                  case measure =>
                    simp only [World.iterPos, HIT3.out, HIT.out]
                    omega
                · have hnx : ∀ ty, (Instr.next (.pointer (some ⟨zi, 0, none⟩)) true ty).run Tryz.prog wr = _ := fun ty => Lib.run_next_end_at wr zi str pos ty HIT.out hlt
                  go_wp2_with fail
                  go_end0
                  have hrn : runesN str = l.length := by
                    unfold runesN
                    rw [HRU.out, runesAt_end (by omega)]
                    simp
                  refine .inl ⟨mk ++ List.replicate l.length (false, ky), by rw [← hrn]; exact HFI4.out, rfl, (But.of_below HBW9.out).trans HBT.out fun k hk hx => hx, Av, cv, ?_, ?_, fun k hk => ?_⟩
                  · rw [List.length_append, List.length_replicate]
                    exact HAD.out
                  · rw [List.length_append, List.length_replicate]
                    exact HOW.out
                  · rw [List.length_append, List.length_replicate] at hk
                    rcases HNW.out k hk with e | e
                    · exact .inl e
                    · exact .inr (qT HBW9.out.size e)
        · rw [dF h1] at hk1
          have HFI3 := Lib.hid (HFI2.out.trans (if_neg h1))
          clear h1
          go_wp2_with fail
          go_end0
          exact .inl ⟨mk, HFI3.out, rfl, MkTo.same HM.out.ad HRW.out HBW8.out⟩
end Go.Proofs.YtdgbjhfkmembdaaGreatDoor
