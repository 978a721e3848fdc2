/-
  What order.merge gives for ids. Conditions: ids of 32 bytes; at most 2^40 of them.
-/
import Derived.Test.YtdgbjhfkmembdaaGreatDoorShort0
import Derived.Test.YtdgbjhfkmembdaaGreatDoorShort9
import Derived.Test.YtdgbjhfkmembdaaGreatDoorOrdMergeS
import Derived.Test.YtdgbjhfkmembdaaGreatDoorSliceH
import Derived.Test.YtdgbjhfkmembdaaGreatDoorObjIds1
import Derived.Test.YtdgbjhfkmembdaaGreatDoorOrdFind
namespace Go.Proofs.YtdgbjhfkmembdaaGreatDoor
open Go.RowKit Go.Maps
set_option linter.unusedVariables false
set_option linter.unusedSimpArgs false

/-- 'append(s, l...)', s a row of the call's own, l any slice. -/
theorem wp_appL8 {P : Program} {ops : Array Oper} {rest : List Oper} {o : Oper} {a : Act} {w : World} {Q : Exit → Act → World → Prop} (hw : Region.wanted o (yielded ops a.tmps) = true) (s x : Operand) (t : TypeId)
    (ho : o.op = .call { callee := .builtin .append, args := #[s, x], argTypes := #[t, t] })
    (base : Nat) (e : TypeId) (z : Value) (size bytes : Nat) (ht : P.underlying t = some (.slice e)) (hinf : (P.info? e).map (fun i => (i.zero, i.size, i.bytes)) = some (some z, size, bytes))
    (hzs : z.cells.size = size) (hsz : 0 < size)
    (v : Value) (n : Nat) (xs : List Value) (hs : a.eval s = v) (hown : w.ownsRow base e size v n xs)
    (A : Option Addr) (m c B : Nat) (news : List Value) (hx : a.eval x = .slice A m c) (hsl : Sl w B A m size news) (h1 : ∀ u ∈ news, u.oneCell' = true)
    (h63 : n + m ≤ maxLen) (hbytes : (n + m) * bytes ≤ 140737488355328) (hbase : base ≤ w.heap.size)
    (h : ∀ v' w', w'.ownsRow base e size v' (n + m) (xs ++ news) → w.grownBy w' v.ownBlock → wpList P ops Q rest (a.put o.dst v') w') : wpList P ops Q (o :: rest) a w := by
  obtain ⟨i, hi, hz0, hz2, hz3⟩ := info_parts hinf
  refine BigFrame.wpList_want hw fun K hK => ?_
  exact wp_append_sl s x t ho base e i z size bytes ht hi hz0 hz2 hz3 hzs hsz v n xs hs hown A m c B news hx hsl h1 h63 hbytes hbase fun v' w' h2 h3 => hK _ _ (h v' w' h2 h3)
def slcLen : Value → Nat
  | .slice _ n _ => n
  | _ => 0
theorem ex_quo2 {ρ : Operand → Value} {o : Oper} {w : World} (x y : Operand) (t' : TypeId) (ho : o.op = .binOp .quo 3 x y t') {n m : Nat} (hx : ρ x = .int .i64 (n : Int)) (hy : ρ y = .int .i64 2) (hm : n / 2 = m) (hn : n ≤ 1099511627776) : (execOp ρ o).run Tryz.prog w = .ok (.value (.int .i64 (m : Int))) w := by
  have e2 : IntKind.i64.wrap ((n : Int) / 2) = (m : Int) := by rw [show (n : Int) / 2 = (m : Int) by omega, IntWalk.i64_in _ ⟨by omega, by omega⟩]
  unfold execOp
  simp only [ho, hx, hy]
  simp [binOp, Op.intDiv, Result.andThen, eqGuard, e2]
/-- What merging gives: a sorted list of the same ids. -/
def MergeGives (l : List (List UInt8)) (w : World) (e : Ending) (w' : World) : Prop :=
  Below w.heap.size w w' ∧ ∃ (l' : List (List UInt8)) (A : Option Addr) (c : Nat), e = .returned (.slice A l'.length c) ∧ Sl w' w'.heap.size A l'.length 32 (idsV l') ∧ l'.length ≤ c ∧ SortedL l' ∧ l'.Perm l
theorem own_cap8 {w : World} {base n sz : Nat} {e : TypeId} {A : Option Addr} {m c : Nat} {xs : List Value} (h : w.ownsRow base e sz (.slice A m c) n xs) : n ≤ c := by
  rcases h.2 with ⟨hv, hn⟩ | ⟨g, cap, cur, hv, _, _, hle, _⟩
  · omega
  · injection hv with _ _ h3
    omega
theorem sortedL_short {l : List (List UInt8)} (h : l.length < 2) : SortedL l := by
  match l, h with
  | [], _ => exact List.Pairwise.nil
  | [a], _ => exact List.pairwise_singleton _ _
set_option maxHeartbeats 4000000 in
set_option maxRecDepth 100000 in
theorem merge_short (l : List (List UInt8)) (A : Option Addr) (c : Nat) (w : World) (h2 : l.length < 2) (hs : Sl w w.heap.size A l.length 32 (idsV l)) :
    Calls Tryz.prog 154 #[.slice A l.length c, .func (.func 129) #[] #[]] w (MergeGives l w) := by
  have HS := Lib.hid hs
  have d2 : decide ((l.length : Int) < 2) = true := by simp; omega
  have HL2 := Lib.hid h2
  clear hs
  go_enter Tryz.func154, Tryz.ntmps154
  go_wp2_with (at_builtin; refine wp_appL8 (by rfl) _ _ 34 rfl w.heap.size 41 (.agg (idV zero32).toArray) 32 32 Tryz.underlying34 infoId rfl (by decide) (.slice none 0 0) 0 [] rfl (World.ownsRow_nil _ _ _ _) A l.length c w.heap.size (idsV l) rfl HS.out (idsV_one _) (by unfold maxLen; omega) (by omega) (qR _) ?_; intro v' w' ho hg
               rw [qZ, List.nil_append] at ho
               obtain ⟨A2, c2, hv2⟩ := own_form' ho
               subst hv2
               have HO := Lib.hid ho
               have HB2 := Lib.hid ((qB w.heap.size w).grown hg (qR _) (fun k e => by simp [Value.ownBlock] at e))
               clear ho hg)
  go_ret
  exact ⟨HB2.out, l, _, _, rfl, Sl.of_own HO.out, own_cap8 HO.out, sortedL_short HL2.out, List.Perm.refl _⟩
/-- Where the merging loop stands: what has come out, what is left of each half. -/
structure MgAt (w1 : World) (pa pb out ra rb : List (List UInt8)) (Aa : Option Addr) (na ca : Nat) (Ab : Option Addr) (nb cb : Nat) (Ao : Option Addr) (no co : Nat) (w : World) : Prop where
  mg : Mg pa pb out ra rb
  bel : Below w1.heap.size w1 w
  ena : ra.length = na
  enb : rb.length = nb
  eno : out.length = no
  sa : Sl w w1.heap.size Aa na 32 (idsV ra)
  lca : na ≤ ca
  sb : Sl w w1.heap.size Ab nb 32 (idsV rb)
  lcb : nb ≤ cb
  own : w.ownsRow w1.heap.size 41 32 (.slice Ao no co) no (idsV out)
  oka : IdsOk ra
  okb : IdsOk rb
  len : no + na + nb ≤ 1099511627776
theorem MgAt.swap {w1 w : World} {pa pb out ra rb : List (List UInt8)} {Aa Ab Ao : Option Addr} {na ca nb cb no co : Nat} (h : MgAt w1 pa pb out ra rb Aa na ca Ab nb cb Ao no co w) : MgAt w1 pb pa out rb ra Ab nb cb Aa na ca Ao no co w :=
  ⟨h.mg.swap, h.bel, h.enb, h.ena, h.eno, h.sb, h.lcb, h.sa, h.lca, h.own, h.okb, h.oka, by have := h.len; omega⟩
/-- One id moves from the first half to the end. -/
theorem MgAt.left {w1 w w9 : World} {pa pb out ra rb : List (List UInt8)} {Aa Ab Ao A' A9 : Option Addr} {na ca nb cb no co c9 : Nat} {x : List UInt8} (h : MgAt w1 pa pb out (x :: ra) rb Aa na ca Ab nb cb Ao no co w) (hc : ∀ y t, rb = y :: t → cmpB x y ≤ 0)
    (hb : Below w1.heap.size w w9) (ho : w9.ownsRow w1.heap.size 41 32 (.slice A9 (no + 1) c9) (no + 1) (idsV out ++ idV x)) (hs : Sl w9 w1.heap.size A' (na - 1) 32 (idsV ra)) : MgAt w1 pa pb (out ++ [x]) ra rb A' (na - 1) (ca - 1) Ab nb cb A9 (no + 1) c9 w9 := by
  have h1 := h.ena
  have h2 := h.lca
  have h3 := h.len
  have h4 := h.eno
  rw [List.length_cons] at h1
  refine ⟨h.mg.left hc, h.bel.trans hb, by omega, h.enb, by rw [List.length_append, h4]; rfl, hs, by omega, h.sb.keep hb, h.lcb, by rw [idsV_snoc]; exact ho, h.oka.tail, h.okb, by omega⟩
theorem below_id {w1 w2 w3 : World} {B : Nat} (h : Below B w1 w2) (hB : B ≤ w1.heap.size) : Below B w1 w2 := h
theorem ex_index0 {P : Program} {ρ : Operand → Value} {o : Oper} {w : World} (t : TypeId) (x y : Operand) (ho : o.op = .indexAddr t x y) {b off n c size : Nat} (hx : ρ x = .slice (some ⟨b, off, none⟩) n c) (hy : ρ y = .int .i64 0) (hq : 0 < n) {e : TypeId} (ht : P.underlying t = some (.slice e)) (hi : (P.info? e).map (·.size) = some size) :
    (execOp ρ o).run P w = .ok (.value (.pointer (some ⟨b, off, none⟩))) w := by
  cases hp : P.info? e with
  | none => simp [hp] at hi
  | some i =>
    have hs : i.size = size := by simpa [hp] using hi
    unfold execOp
    simp [ho, hx, hy, Instr.indexAt, asIntOf, run_underlying ht, sizeOf, typeInfo, hp, hs, Sem.run_bind, Result.andThen, hq, Addr.add]
theorem idsV_cons1 {x : List UInt8} {r : List (List UInt8)} (hx : x.length = 32) : (idsV (x :: r)).drop (1 * 32) = idsV r := by
  have h1 : (idV x).length = 32 := by rw [idV_length]; exact hx
  unfold idsV
  rw [List.flatMap_cons, Nat.one_mul, ← h1, List.drop_left]
theorem ids_head {w : World} {b off : Nat} {x : List UInt8} {r : List (List UInt8)} (hc : ∀ j u, (idsV (x :: r))[j]? = some u → w.cell? ⟨b, off + j, none⟩ = some u) : ∀ j u, (idV x)[j]? = some u → w.cell? ⟨b, off + j, none⟩ = some u := fun j u hj => hc j u (by
  unfold idsV
  rw [List.flatMap_cons, List.getElem?_append_left (List.getElem?_eq_some_iff.1 hj).1]
  exact hj)
set_option maxHeartbeats 4000000 in
set_option maxRecDepth 100000 in
theorem merge_any : ∀ (n : Nat) (l : List (List UInt8)) (A : Option Addr) (c : Nat) (w : World), l.length ≤ n → l.length ≤ 1099511627776 → l.length ≤ c → IdsOk l → Sl w w.heap.size A l.length 32 (idsV l) →
    Calls Tryz.prog 154 #[.slice A l.length c, .func (.func 129) #[] #[]] w (MergeGives l w) := by
  intro n
  induction n with
  | zero => intro l A c w h0 _ _ _ hs; exact merge_short l A c w (by omega) hs
  | succ n ih =>
    intro l A c w h0 hn hc ho hs
    by_cases h2 : l.length < 2
    · exact merge_short l A c w h2 hs
    obtain ⟨m, hm⟩ : ∃ m, l.length / 2 = m := ⟨_, rfl⟩
    have hmc : m ≤ c := by omega
    have hml : m ≤ l.length := by omega
    obtain ⟨A1, h1, h3⟩ := ids_slice_h (c := c) ho hs hml
    obtain ⟨A2, h2', h4⟩ := ids_slice_l (c := c) ho hs hml hc
    obtain ⟨la, hla⟩ : ∃ la, l.take m = la := ⟨_, rfl⟩
    obtain ⟨lb, hlb⟩ : ∃ lb, l.drop m = lb := ⟨_, rfl⟩
    have ela : la.length = m := by rw [← hla, List.length_take]; omega
    have elb : lb.length = l.length - m := by rw [← hlb, List.length_drop]
    have hla1 : la.length ≤ n := by omega
    have hla2 : la.length ≤ 1099511627776 := by omega
    have hla3 : la.length ≤ c := by omega
    have hlb1 : lb.length ≤ n := by omega
    have hlb2 : lb.length ≤ 1099511627776 := by omega
    have hlb3 : lb.length ≤ c - m := by omega
    rw [hla, ← ela] at h3
    rw [hlb, ← elb] at h4
    rw [show m = la.length from ela.symm] at h1
    rw [← elb] at h2'
    have H1 : Hid (sliced A 0 m c 32 = .slice A1 la.length c) := Lib.hid (by rw [← ela]; exact h1)
    have H2 : Hid (sliced A m l.length c 32 = .slice A2 lb.length (c - m)) := Lib.hid h2'
    have H3 := Lib.hid h3; have H4 := Lib.hid h4
    have HOA := Lib.hid (ho.sub (a := la) fun i hi => by rw [← hla] at hi; exact List.mem_of_mem_take hi)
    have HOB := Lib.hid (ho.sub (a := lb) fun i hi => by rw [← hlb] at hi; exact List.mem_of_mem_drop hi)
    have HLL := Lib.hid (show la ++ lb = l by rw [← hla, ← hlb]; exact List.take_append_drop _ _)
    have d2 : decide ((l.length : Int) < 2) = false := by simp; omega
    have HO := Lib.hid ho; have HS := Lib.hid hs
    have HLN := Lib.hid (show la.length + lb.length = l.length by omega)
    clear h1 h2' h3 h4 hla hlb ela elb ho hs hc h0 h2
    have hE1 := enE Tryz.func154 rfl
    go_enter Tryz.func154, Tryz.ntmps154
    go_upto_region 3 with fail
    refine rN 16 (fun _ => True) (trivial) fun hF0 => ?_
    refine tw 0 (.slice A l.length c) ?_
    go_frame
    refine tw 1 (.slice A l.length c) ?_
    go_frame
    refine tk 2 (.int .i64 (l.length : Int)) rfl (fun w' hw' => ex_len 34 _ rfl rfl Tryz.underlying34) ?_
    go_frame
    refine tk 3 (.int .i64 (m : Int)) rfl (fun w' hw' => ex_quo2 _ _ _ rfl rfl rfl hm hn) ?_
    go_frame
    refine tk 4 (.slice A1 la.length c) rfl (fun w' hw' => ex_slice_h 34 _ _ rfl rfl rfl Tryz.underlying34 (by kernel_rfl) hmc H1.out) ?_
    go_frame
    refine tw 5 (.func (.func 129) #[] #[]) ?_
    go_frame
    refine tw 7 (.slice A l.length c) ?_
    go_frame
    refine tw 8 (.slice A l.length c) ?_
    go_frame
    refine tk 9 (.int .i64 (l.length : Int)) rfl (fun w' hw' => ex_len 34 _ rfl rfl Tryz.underlying34) ?_
    go_frame
    refine tk 10 (.int .i64 (m : Int)) rfl (fun w' hw' => ex_quo2 _ _ _ rfl rfl rfl hm hn) ?_
    go_frame
    refine tk 11 (.slice A2 lb.length (c - m)) rfl (fun w' hw' => ex_slice_l 34 _ _ rfl rfl rfl Tryz.underlying34 (by kernel_rfl) hml H2.out) ?_
    go_frame
    refine tw 12 (.func (.func 129) #[] #[]) ?_
    go_frame
    refine ta 6 ?_
    refine tc #[.slice A1 la.length c, .func (.func 129) #[] #[]] hE1 rfl ?_
    refine (ih la A1 c w.drew hla1 hla2 hla3 HOA.out ((H3.out.keep (qD _ _)).more (qD w.heap.size w).size)).mono ?_
    rintro e w1 ⟨hb1, pa, Aa, ca, rfl, hs1, hc1, hso1, hpe1⟩
    have HB1 := Lib.hid ((qD w.heap.size w).trans (hb1.mono (qD w.heap.size w).size)); have HS1 := Lib.hid hs1; have HC1 := Lib.hid hc1; have HSO1 := Lib.hid hso1; have HPE1 := Lib.hid hpe1
    clear hb1 hs1 hc1 hso1 hpe1
    refine ⟨_, rfl, fun _ _ => trivial, ?_⟩
    go_frame
    refine ta 13 ?_
    refine tc #[.slice A2 lb.length (c - m), .func (.func 129) #[] #[]] hE1 rfl ?_
    refine (ih lb A2 (c - m) w1 hlb1 hlb2 hlb3 HOB.out ((H4.out.keep HB1.out).more HB1.out.size)).mono ?_
    rintro e w2 ⟨hb2, pb, Ab, cb, rfl, hs2, hc2, hso2, hpe2⟩
    have HS1' := Lib.hid ((HS1.out.keep hb2).more hb2.size)
    have HB2 := Lib.hid (HB1.out.trans (hb2.mono HB1.out.size)); have HS2 := Lib.hid hs2; have HC2 := Lib.hid hc2; have HSO2 := Lib.hid hso2; have HPE2 := Lib.hid hpe2
    clear hb2 hs2 hc2 hso2 hpe2
    refine ⟨_, rfl, fun _ _ => trivial, ?_⟩
    go_frame
    refine tw 14 (.slice Aa pa.length ca) ?_
    go_frame
    refine tw 15 (.slice Ab pb.length cb) ?_
    go_frame
    refine wpAnyN_done (by kernel_rfl) ?_ _
    have HPP := Lib.hid (show (pa ++ pb).Perm l from (HPE1.out.append HPE2.out).trans (by rw [HLL.out]))
    have HLA := Lib.hid (show pa.length + pb.length = l.length by rw [HPE1.out.length_eq, HPE2.out.length_eq]; exact HLN.out)
    have HOKA := Lib.hid (HOA.out.sub (a := pa) fun i hi => HPE1.out.mem_iff.1 hi)
    have HOKB := Lib.hid (HOB.out.sub (a := pb) fun i hi => HPE2.out.mem_iff.1 hi)
    have HFIN := Lib.hid (fun (u : World) (hu : Below w2.heap.size w2 u) => HB2.out.trans (hu.mono HB2.out.size))
    clear HS1 HPE1 HPE2 HOA HOB HLN HB1 H1 H2 H3 H4 hla1 hla2 hla3 hlb1 hlb2 hlb3 hm hmc hml HLL ih
    obtain ⟨im, hmi, hm0, hm1, hm2⟩ := info_parts infoId
    go_upto_region 4 with fail
    go_wp2_with (refine wpList_make_own w2 rfl _ _ 34 rfl w2.heap.size 41 im (.agg (idV zero32).toArray) 32 Tryz.underlying34 hmi hm0 hm1 .i64 .i64 _ l.length rfl rfl rfl (by rw [hm2]; omega) (by unfold maxLen; omega) (qR _) ?_; intro w4 hown4 hg4)
    have HAT0 : Hid (MgAt w2 pa pb [] pa pb Aa pa.length ca Ab pb.length cb (some ⟨w2.heap.size, 0, none⟩) 0 l.length w4) := Lib.hid (by
      have hb4 : Below w2.heap.size w2 w4 := (qB _ _).grown hg4 (qR _) (fun k e => by cases e)
      have h9 := HLA.out
      exact ⟨Mg.start HSO1.out HSO2.out, hb4, rfl, rfl, rfl, HS1'.out.keep hb4, HC1.out, HS2.out.keep hb4, HC2.out, hown4, HOKA.out, HOKB.out, by omega⟩)
    have HPA := Lib.hid HLA.out
    clear hmi hm0 hm1 hm2 hown4 hg4 HS1' HS2 HC1 HC2 HSO1 HSO2 HOKA HOKB
    obtain ⟨w1, hw1⟩ : ∃ u : World, u = w2 := ⟨_, rfl⟩
    subst hw1
    obtain ⟨npa, hnpa⟩ : ∃ q, pa.length = q := ⟨_, rfl⟩
    obtain ⟨npb, hnpb⟩ : ∃ q, pb.length = q := ⟨_, rfl⟩
    rw [hnpa, hnpb] at HAT0 ⊢
    clear hnpa hnpb HLA HPA
    go_loopw [5, 6, 7] (fun t5 t6 t7 wr => ∃ out ra rb Aa na ca Ab nb cb Ao no co, t5 = .slice Aa na ca ∧ t6 = .slice Ab nb cb ∧ t7 = .slice Ao no co ∧ Hid (MgAt w1 pa pb out ra rb Aa na ca Ab nb cb Ao no co wr)) (fun t5 t6 _ _ => slcLen t5 + slcLen t6)
    case atStart => exact ⟨[], pa, pb, Aa, npa, ca, Ab, npb, cb, _, 0, l.length, rfl, rfl, rfl, HAT0⟩
    case round =>
      clear HAT0
      obtain ⟨out, ra, rb, Aa, na, ca, Ab, nb, cb, Ao, no, co, rfl, rfl, rfl, HAT⟩ := hrel
      by_cases hpa : 0 < na
      · by_cases hpb : 0 < nb
        · obtain ⟨x, ra', rfl⟩ : ∃ x r, ra = x :: r := by
            rcases ra with _ | ⟨x, r⟩
            · have := HAT.out.ena; simp at this; omega
            · exact ⟨x, r, rfl⟩
          obtain ⟨y, rb', rfl⟩ : ∃ x r, rb = x :: r := by
            rcases rb with _ | ⟨x, r⟩
            · have := HAT.out.enb; simp at this; omega
            · exact ⟨x, r, rfl⟩
          obtain ⟨ba, offa, rfl, hbla, hcla⟩ := HAT.out.sa.2 hpa
          obtain ⟨bb, offb, rfl, hblb, hclb⟩ := HAT.out.sb.2 hpb
          have HX := Lib.hid (show x.length = 32 from HAT.out.oka x (by simp))
          have HY := Lib.hid (show y.length = 32 from HAT.out.okb y (by simp))
          have C1 := Lib.hid (ids_head hcla)
          have C2 := Lib.hid (ids_head hclb)
          have da : decide ((0 : Int) < (na : Int)) = true := by simp; omega
          have db : decide ((0 : Int) < (nb : Int)) = true := by simp; omega
          have da2 : decide (0 < na) = true := by simp; omega
          have db2 : decide (0 < nb) = true := by simp; omega
          have ia : (0 : Int) < (na : Int) := by omega
          have ib : (0 : Int) < (nb : Int) := by omega
          clear hcla hclb
          go_upto_region 6 with fail
          refine wp_region_still_tail 7 (by kernel_rfl) (by kernel_rfl) ?_
          simp only [List.take_succ_cons, List.take_zero, List.drop_succ_cons, List.drop_zero]
          repeat still_step
          refine wpStill_loadN (by rfl) 41 _ rfl ba offa (by first | rfl | simp) (idV x) _ C1.out Tryz.underlying41 rfl (by rw [idV_length, HX.out]; exact sizeId2) ?_
          repeat still_step
          refine wpStill_loadN (by rfl) 41 _ rfl bb offb (by first | rfl | simp) (idV y) _ C2.out Tryz.underlying41 rfl (by rw [idV_length, HY.out]; exact sizeId2) ?_
          refine wpStill_nil ?_
          change wpList _ _ _ _ _ wr.drew
          generalize hwd : wr.drew = w6
          have HB6 := Lib.hid (show Below wr.heap.size wr w6 by rw [← hwd]; exact (qD _ _))
          clear hwd
          go_wp2_with fail
          refine (compare_any x y _ HX.out HY.out).mono ?_
          rintro e w3 ⟨hb3, rfl⟩
          have HB3 := Lib.hid (show Below wr.heap.size wr w3 from HB6.out.trans (hb3.mono HB6.out.size))
          clear hb3 HB6
          have HGR := Lib.hid HAT.out.bel.size
          have HAT3 : Hid (MgAt w1 pa pb out (x :: ra') (y :: rb') (some ⟨ba, offa, none⟩) na ca (some ⟨bb, offb, none⟩) nb cb Ao no co w3) := Lib.hid
            ⟨HAT.out.mg, HAT.out.bel.trans (HB3.out.mono HGR.out), HAT.out.ena, HAT.out.enb, HAT.out.eno, HAT.out.sa.keep (HB3.out.mono HGR.out), HAT.out.lca, HAT.out.sb.keep (HB3.out.mono HGR.out), HAT.out.lcb, (But.of_below (X := NoB) HB3.out).own HAT.out.own (fun _ _ q => q), HAT.out.oka, HAT.out.okb, HAT.out.len⟩
          have C1' := Lib.hid (fun j u (hj : (idV x)[j]? = some u) => ((HB3.out.mono HGR.out).cell (p := ⟨ba, offa + j, none⟩) hbla).trans (C1.out j u hj))
          have C2' := Lib.hid (fun j u (hj : (idV y)[j]? = some u) => ((HB3.out.mono HGR.out).cell (p := ⟨bb, offb + j, none⟩) hblb).trans (C2.out j u hj))
          have HGW := Lib.hid (show w1.heap.size ≤ w3.heap.size from qT HGR.out HB3.out.size)
          clear HAT C1 C2 HB3 HGR
          obtain ⟨HAT, HATe⟩ : ∃ h : Hid (MgAt w1 pa pb out (x :: ra') (y :: rb') (some ⟨ba, offa, none⟩) na ca (some ⟨bb, offb, none⟩) nb cb Ao no co w3), True := ⟨HAT3, trivial⟩
          obtain ⟨C1, C1e⟩ : ∃ h : Hid (∀ j u, (idV x)[j]? = some u → w3.cell? ⟨ba, offa + j, none⟩ = some u), True := ⟨C1', trivial⟩
          obtain ⟨C2, C2e⟩ : ∃ h : Hid (∀ j u, (idV y)[j]? = some u → w3.cell? ⟨bb, offb + j, none⟩ = some u), True := ⟨C2', trivial⟩
          clear HAT3 HATe C1' C1e C2' C2e
          have hlen := HAT.out.len
          by_cases hq : cmpB x y ≤ 0
          · have HCQ := Lib.hid (show ∀ z t, y :: rb' = z :: t → cmpB x z ≤ 0 from fun z t h => by injection h with h1 h2; rw [← h1]; exact hq)
            have dq : decide (cmpB x y ≤ 0) = true := by simpa using hq
            generalize cmpB x y = q at *
            go_upto_region 7 with fail
            have HFA := Lib.hid (show ∀ u : World, Below w1.heap.size w3 u → u.rangeAt ba offa (idV x) from fun u hu j v hj => (hu.cell (p := ⟨ba, offa + j, none⟩) hbla).trans (C1.out j v hj))
            have HBD := Lib.hid (show Below w1.heap.size w3 w3.drew from (qD _ _))
            have HBA := Lib.hid (show Below w1.heap.size w3 (w3.drew.alloc (.cells (idV x).toArray 41)) from HBD.out.alloc HGW.out _)
            have HF2 := Lib.hid (HFA.out _ HBA.out)
            have HOW := Lib.hid ((But.of_below (X := NoB) (((qD w3.heap.size w3).alloc (qR _) (.cells (idV x).toArray 41)))).own HAT.out.own fun _ _ q => q)
            have HNW := Lib.hid (show ∀ j u, (idV x)[j]? = some u → (w3.drew.alloc (.cells (idV x).toArray 41)).cell? ((⟨w3.drew.heap.size, 0, none⟩ : Addr).add j) = some u from fun j u hj => by
              have e1 : (⟨w3.drew.heap.size, 0, none⟩ : Addr).add j = ⟨w3.drew.heap.size, j, none⟩ := by unfold Addr.add; split <;> simp_all
              rw [e1]
              exact (cells_at0 (heap_alloc_new _ _) j).trans hj)
            have HGZ := Lib.hid (show w1.heap.size ≤ (w3.drew.alloc (.cells (idV x).toArray 41)).heap.size from qT HGW.out (by simp))
            obtain ⟨A', hsv, hsl⟩ := Sl.slice_l (c := ca) (l := 1) HAT.out.sa hpa HAT.out.lca
            have HSV := Lib.hid hsv; have HSL := Lib.hid hsl
            clear hsv hsl
            refine rN 8 (fun u => u.rangeAt ba offa (idV x)) (HFA.out _ HBD.out) fun hF0 => ?_
            refine tw 0 (.slice Ao no co) ?_
            go_frame
            refine tw 1 (.slice (some ⟨ba, offa, none⟩) na ca) ?_
            go_frame
            refine tk 2 (.pointer (some ⟨ba, offa, none⟩)) rfl (fun w' hw' => ex_index0 34 _ _ rfl rfl rfl hpa Tryz.underlying34 sizeId2) ?_
            go_frame
            refine tl 3 (.agg (idV x).toArray) rfl hF0 (fun w' hw' => ex_load 41 _ rfl (p := ⟨ba, offa, none⟩) rfl (qV w' _ _ _ (idV x) _ hw' Tryz.underlying41 rfl (by rw [idV_length, HX.out]; exact sizeId2))) ?_
            go_frame
            refine tw 6 (.slice (some ⟨ba, offa, none⟩) na ca) ?_
            go_frame
            refine tk 7 (.slice A' (na - 1) (ca - 1)) rfl (fun w' hw' => ex_slice_l 34 _ _ rfl rfl (l := 1) rfl Tryz.underlying34 (by kernel_rfl) hpa HSV.out) ?_
            go_frame
            refine ta 4 ?_
            refine wpOp_val _ rfl (by kernel_rfl) (ex_buildR 34 _ rfl 41 Tryz.underlying34 (.agg (idV zero32).toArray) 32 32 infoId rfl (by decide) (by decide) (idV x) (by rw [idV_length]; exact HX.out) rfl) ?_
            refine ⟨fun _ _ => HF2.out, ?_⟩
            go_frame
            refine ta 5 ?_
            refine wpOp_wp _ rfl (by kernel_rfl) ?_
            refine op_appW _ _ 34 rfl w1.heap.size 41 (.agg (idV zero32).toArray) 32 32 Tryz.underlying34 infoId rfl (by decide) (.slice Ao no co) no (idsV out) rfl HOW.out ⟨w3.drew.heap.size, 0, none⟩ 1 1 (idV x) rfl (by rw [idV_length, Nat.one_mul]; exact HX.out) HNW.out (idV_one _) (by unfold maxLen; omega) (by omega) HGZ.out ?_
            intro v9 w9 ho9 hg9 hw9
            obtain ⟨A9, c9, rfl⟩ := own_form' ho9
            have HB9 := Lib.hid (HBA.out.grown hg9 HGZ.out (fun k e => (HOW.out.lt k e).1))
            have HO9 := Lib.hid ho9
            clear ho9 hg9 hw9
            refine ⟨fun _ _ => HFA.out _ HB9.out, ?_⟩
            go_frame
            refine tw 8 (.slice A9 (no + 1) c9) ?_
            go_frame
            refine tw 9 (.slice A' (na - 1) (ca - 1)) ?_
            go_frame
            refine wpAnyN_done (by kernel_rfl) ?_ _
            clear C1 C2
            have hnext := HAT.out.left HCQ.out HB9.out HO9.out (by have h := HSL.out.keep HB9.out; rwa [idsV_cons1 HX.out] at h)
            go_wp2_with fail
            go_roundw
            case rel => exact ⟨_, _, _, A', na - 1, ca - 1, _, nb, cb, A9, no + 1, c9, rfl, rfl, rfl, Lib.hid hnext⟩
            case measure => (simp [slcLen]) <;> omega
          · have HCQ := Lib.hid (show ∀ z t, x :: ra' = z :: t → cmpB y z ≤ 0 from fun z t h => by injection h with h1 h2; rw [← h1, cmpB_swap]; omega)
            have dq : decide (cmpB x y ≤ 0) = false := by simp; omega
            generalize cmpB x y = q at *
            go_upto_region 8 with fail
            have HFA := Lib.hid (show ∀ u : World, Below w1.heap.size w3 u → u.rangeAt bb offb (idV y) from fun u hu j v hj => (hu.cell (p := ⟨bb, offb + j, none⟩) hblb).trans (C2.out j v hj))
            have HBD := Lib.hid (show Below w1.heap.size w3 w3.drew from (qD _ _))
            have HBA := Lib.hid (show Below w1.heap.size w3 (w3.drew.alloc (.cells (idV y).toArray 41)) from HBD.out.alloc HGW.out _)
            have HF2 := Lib.hid (HFA.out _ HBA.out)
            have HOW := Lib.hid ((But.of_below (X := NoB) (((qD w3.heap.size w3).alloc (qR _) (.cells (idV y).toArray 41)))).own HAT.out.own fun _ _ q => q)
            have HNW := Lib.hid (show ∀ j u, (idV y)[j]? = some u → (w3.drew.alloc (.cells (idV y).toArray 41)).cell? ((⟨w3.drew.heap.size, 0, none⟩ : Addr).add j) = some u from fun j u hj => by
              have e1 : (⟨w3.drew.heap.size, 0, none⟩ : Addr).add j = ⟨w3.drew.heap.size, j, none⟩ := by unfold Addr.add; split <;> simp_all
              rw [e1]
              exact (cells_at0 (heap_alloc_new _ _) j).trans hj)
            have HGZ := Lib.hid (show w1.heap.size ≤ (w3.drew.alloc (.cells (idV y).toArray 41)).heap.size from qT HGW.out (by simp))
            obtain ⟨A', hsv, hsl⟩ := Sl.slice_l (c := cb) (l := 1) HAT.out.sb hpb HAT.out.lcb
            have HSV := Lib.hid hsv; have HSL := Lib.hid hsl
            clear hsv hsl
            refine rN 8 (fun u => u.rangeAt bb offb (idV y)) (HFA.out _ HBD.out) fun hF0 => ?_
            refine tw 0 (.slice Ao no co) ?_
            go_frame
            refine tw 1 (.slice (some ⟨bb, offb, none⟩) nb cb) ?_
            go_frame
            refine tk 2 (.pointer (some ⟨bb, offb, none⟩)) rfl (fun w' hw' => ex_index0 34 _ _ rfl rfl rfl hpb Tryz.underlying34 sizeId2) ?_
            go_frame
            refine tl 3 (.agg (idV y).toArray) rfl hF0 (fun w' hw' => ex_load 41 _ rfl (p := ⟨bb, offb, none⟩) rfl (qV w' _ _ _ (idV y) _ hw' Tryz.underlying41 rfl (by rw [idV_length, HY.out]; exact sizeId2))) ?_
            go_frame
            refine tw 6 (.slice (some ⟨bb, offb, none⟩) nb cb) ?_
            go_frame
            refine tk 7 (.slice A' (nb - 1) (cb - 1)) rfl (fun w' hw' => ex_slice_l 34 _ _ rfl rfl (l := 1) rfl Tryz.underlying34 (by kernel_rfl) hpb HSV.out) ?_
            go_frame
            refine ta 4 ?_
            refine wpOp_val _ rfl (by kernel_rfl) (ex_buildR 34 _ rfl 41 Tryz.underlying34 (.agg (idV zero32).toArray) 32 32 infoId rfl (by decide) (by decide) (idV y) (by rw [idV_length]; exact HY.out) rfl) ?_
            refine ⟨fun _ _ => HF2.out, ?_⟩
            go_frame
            refine ta 5 ?_
            refine wpOp_wp _ rfl (by kernel_rfl) ?_
            refine op_appW _ _ 34 rfl w1.heap.size 41 (.agg (idV zero32).toArray) 32 32 Tryz.underlying34 infoId rfl (by decide) (.slice Ao no co) no (idsV out) rfl HOW.out ⟨w3.drew.heap.size, 0, none⟩ 1 1 (idV y) rfl (by rw [idV_length, Nat.one_mul]; exact HY.out) HNW.out (idV_one _) (by unfold maxLen; omega) (by omega) HGZ.out ?_
            intro v9 w9 ho9 hg9 hw9
            obtain ⟨A9, c9, rfl⟩ := own_form' ho9
            have HB9 := Lib.hid (HBA.out.grown hg9 HGZ.out (fun k e => (HOW.out.lt k e).1))
            have HO9 := Lib.hid ho9
            clear ho9 hg9 hw9
            refine ⟨fun _ _ => HFA.out _ HB9.out, ?_⟩
            go_frame
            refine tw 8 (.slice A9 (no + 1) c9) ?_
            go_frame
            refine tw 9 (.slice A' (nb - 1) (cb - 1)) ?_
            go_frame
            refine wpAnyN_done (by kernel_rfl) ?_ _
            clear C1 C2
            have hnext := (HAT.out.swap.left HCQ.out HB9.out HO9.out (by have h := HSL.out.keep HB9.out; rwa [idsV_cons1 HY.out] at h)).swap
            go_wp2_with fail
            go_roundw
            case rel => exact ⟨_, _, _, _, na, ca, A', nb - 1, cb - 1, A9, no + 1, c9, rfl, rfl, rfl, Lib.hid hnext⟩
            case measure => (simp [slcLen]) <;> omega
        · have HE : Hid (ra = [] ∨ rb = []) := Lib.hid (.inr (List.length_eq_zero_iff.1 (by rw [HAT.out.enb]; omega)))
          have da : decide ((0 : Int) < (na : Int)) = true := by simp; omega
          have db : decide ((0 : Int) < (nb : Int)) = false := by simp; omega
          have da2 : decide (0 < na) = true := by simp; omega
          have db2 : decide (0 < nb) = false := by simp; omega
          go_upto_region 9 with fail
          obtain ⟨hso, hpe⟩ := HAT.out.mg.done HE.out
          have HSO := Lib.hid hso; have HPE := Lib.hid hpe
          have hlen := HAT.out.len
          have HNL := Lib.hid (show (out ++ ra ++ rb).length = no + na + nb by rw [List.length_append, List.length_append, HAT.out.eno, HAT.out.ena, HAT.out.enb])
          have HGW := Lib.hid HAT.out.bel.size
          clear hso hpe
          go_wp2_with (first
            | (at_builtin; refine wp_appL8 (by rfl) _ _ 34 rfl w1.heap.size 41 (.agg (idV zero32).toArray) 32 32 Tryz.underlying34 infoId rfl (by decide) (.slice Ao no co) no (idsV out) rfl HAT.out.own Aa na ca w1.heap.size (idsV ra) rfl HAT.out.sa (idsV_one _) (by unfold maxLen; omega) (by omega) HGW.out ?_
               intro v8 w8 ho8 hg8
               obtain ⟨A8, c8, rfl⟩ := own_form' ho8
               have HO8 := Lib.hid ho8
               have HB8 := Lib.hid ((qB w1.heap.size wr).grown hg8 HGW.out (fun k e => (HAT.out.own.lt k e).1))
               clear ho8 hg8)
            | (at_builtin; refine wp_appL8 (by rfl) _ _ 34 rfl w1.heap.size 41 (.agg (idV zero32).toArray) 32 32 Tryz.underlying34 infoId rfl (by decide) (.slice A8 (no + na) c8) (no + na) (idsV out ++ idsV ra) rfl HO8.out Ab nb cb w1.heap.size (idsV rb) rfl (HAT.out.sb.keep HB8.out) (idsV_one _) (by unfold maxLen; omega) (by omega) (qT HGW.out HB8.out.size) ?_
               intro v9 w9 ho9 hg9
               obtain ⟨A9, c9, rfl⟩ := own_form' ho9
               have HO9 := Lib.hid ho9
               have HB9 := Lib.hid (HB8.out.grown hg9 (qT HGW.out HB8.out.size) (fun k e => (HO8.out.lt k e).1))
               clear ho9 hg9))
          go_ret
          exact ⟨HFIN.out _ (HAT.out.bel.trans HB9.out), out ++ ra ++ rb, A9, c9, by rw [HNL.out]; rfl, by rw [HNL.out, idsV_app, idsV_app]; exact Sl.of_own HO9.out, by rw [HNL.out]; exact own_cap8 HO9.out, HSO.out, HPE.out.trans HPP.out⟩
      · have HE : Hid (ra = [] ∨ rb = []) := Lib.hid (.inl (List.length_eq_zero_iff.1 (by rw [HAT.out.ena]; omega)))
        have da : decide ((0 : Int) < (na : Int)) = false := by simp; omega
        have da2 : decide (0 < na) = false := by simp; omega
        go_upto_region 9 with fail
        obtain ⟨hso, hpe⟩ := HAT.out.mg.done HE.out
        have HSO := Lib.hid hso; have HPE := Lib.hid hpe
        have hlen := HAT.out.len
        have HNL := Lib.hid (show (out ++ ra ++ rb).length = no + na + nb by rw [List.length_append, List.length_append, HAT.out.eno, HAT.out.ena, HAT.out.enb])
        have HGW := Lib.hid HAT.out.bel.size
        clear hso hpe
        go_wp2_with (first
          | (at_builtin; refine wp_appL8 (by rfl) _ _ 34 rfl w1.heap.size 41 (.agg (idV zero32).toArray) 32 32 Tryz.underlying34 infoId rfl (by decide) (.slice Ao no co) no (idsV out) rfl HAT.out.own Aa na ca w1.heap.size (idsV ra) rfl HAT.out.sa (idsV_one _) (by unfold maxLen; omega) (by omega) HGW.out ?_
             intro v8 w8 ho8 hg8
             obtain ⟨A8, c8, rfl⟩ := own_form' ho8
             have HO8 := Lib.hid ho8
             have HB8 := Lib.hid ((qB w1.heap.size wr).grown hg8 HGW.out (fun k e => (HAT.out.own.lt k e).1))
             clear ho8 hg8)
          | (at_builtin; refine wp_appL8 (by rfl) _ _ 34 rfl w1.heap.size 41 (.agg (idV zero32).toArray) 32 32 Tryz.underlying34 infoId rfl (by decide) (.slice A8 (no + na) c8) (no + na) (idsV out ++ idsV ra) rfl HO8.out Ab nb cb w1.heap.size (idsV rb) rfl (HAT.out.sb.keep HB8.out) (idsV_one _) (by unfold maxLen; omega) (by omega) (qT HGW.out HB8.out.size) ?_
             intro v9 w9 ho9 hg9
             obtain ⟨A9, c9, rfl⟩ := own_form' ho9
             have HO9 := Lib.hid ho9
             have HB9 := Lib.hid (HB8.out.grown hg9 (qT HGW.out HB8.out.size) (fun k e => (HO8.out.lt k e).1))
             clear ho9 hg9))
        go_ret
        exact ⟨HFIN.out _ (HAT.out.bel.trans HB9.out), out ++ ra ++ rb, A9, c9, by rw [HNL.out]; rfl, by rw [HNL.out, idsV_app, idsV_app]; exact Sl.of_own HO9.out, by rw [HNL.out]; exact own_cap8 HO9.out, HSO.out, HPE.out.trans HPP.out⟩
end Go.Proofs.YtdgbjhfkmembdaaGreatDoor
