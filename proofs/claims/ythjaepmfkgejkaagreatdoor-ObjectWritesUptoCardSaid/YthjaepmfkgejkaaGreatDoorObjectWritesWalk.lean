/-
  The law ObjectWrites, walked. Conditions: the object's lists lie in memory; the tables hold what the program's text lays.
-/
import Derived.Test.YthjaepmfkgejkaaGreatDoorMerged1
import Derived.Test.YthjaepmfkgejkaaGreatDoorMerged4
import Derived.Lib.BufferRead
import Derived.Test.YthjaepmfkgejkaaGreatDoorMerged20
import Derived.Test.YthjaepmfkgejkaaGreatDoorMerged21
import Derived.Test.YthjaepmfkgejkaaGreatDoorMerged19
import Derived.Test.YthjaepmfkgejkaaGreatDoorMerged27
import Derived.Test.YthjaepmfkgejkaaGreatDoorMerged28
set_option linter.unusedVariables false
set_option linter.unusedSimpArgs false
set_option maxHeartbeats 4000000
set_option maxRecDepth 100000
namespace Go.Proofs.YthjaepmfkgejkaaGreatDoor.objectWrites
open Lib (hid)
open Go.RowKit Go.Maps
theorem uL {ρ : Operand → Value} {o : Oper} {w : World} (x : Operand) (ho : o.op = .convert 22 9 x) {v r : Value} (hx : ρ x = v) (hr : (convert 22 9 v).run Tryz.prog w = .ok r w) : (execOp ρ o).run Tryz.prog w = .ok (.value r) w := by
  unfold execOp
  simp only [ho, hx, Sem.run_bind, hr, Result.andThen_ok, Sem.run_pure]
theorem qo {ρ : Operand → Value} {o : Oper} {w : World} (x y : Operand) (t' : TypeId) (ho : o.op = .binOp .neq 9 x y t') {s t : ByteArray} (hx : ρ x = .string s) (hy : ρ y = .string t) {r : Bool} (hr : (!(s.toList == t.toList)) = r) : (execOp ρ o).run Tryz.prog w = .ok (.value (.bool r)) w := by
  subst hr
  unfold execOp
  simp only [ho, hx, hy]
  rfl
theorem conv8 {w : World} {B c : Nat} {A : Option Addr} {l : List UInt8} (h : Sl w B A l.length 1 (idV l)) (hp : 0 < l.length) : (convert 22 9 (.slice A l.length c)).run Tryz.prog w = .ok (.string ⟨l.toArray⟩) w := by
  obtain ⟨b, off, rfl, _, hc⟩ := h.2 hp
  have hb : Lib.Bytes w b off ⟨l.toArray⟩ := ut fun j hj => hc j _ (by unfold idV; rw [List.getElem?_map, List.getElem?_eq_getElem hj]; rfl)
  have hw := Lib.run_convert_window (P := Tryz.prog) w 22 5 9 Tryz.underlying22 Tryz.underlying5 Tryz.underlying9 b off ⟨l.toArray⟩ hb 0 l.length c (by rw [Qw]; omega)
  rw [ZA, List.drop_zero, List.take_length, Nat.add_zero] at hw
  exact hw
theorem objE_pos (o : zR) : 0 < (zA o).length := by
  unfold zA Kd KH
  split <;> simp
theorem ex_neqI {ρ : Operand → Value} {o : Oper} {w : World} (x y : Operand) (t' : TypeId) (ho : o.op = .binOp .neq 3 x y t') {m n : Int} (hx : ρ x = .int .i64 m) (hy : ρ y = .int .i64 n) {r : Bool} (hr : (m != n) = r) : (execOp ρ o).run Tryz.prog w = .ok (.value (.bool r)) w := by
  subst hr
  unfold execOp
  simp only [ho, hx, hy]
  rfl
theorem Ut {ρ : Operand → Value} {o : Oper} {w : World} (x y : Operand) (t' : TypeId) (ho : o.op = .binOp .neq 31 x y t') {m n : Int} (hx : ρ x = .int .i64 m) (hy : ρ y = .int .i64 n) {r : Bool} (hr : (m != n) = r) : (execOp ρ o).run Tryz.prog w = .ok (.value (.bool r)) w := by
  subst hr
  unfold execOp
  simp only [ho, hx, hy]
  rfl
theorem ex_eqlE {ρ : Operand → Value} {o : Oper} {w : World} (x y : Operand) (t' : TypeId) (ho : o.op = .binOp .eql 31 x y t') {m n : Int} (hx : ρ x = .int .i64 m) (hy : ρ y = .int .i64 n) {r : Bool} (hr : (m == n) = r) : (execOp ρ o).run Tryz.prog w = .ok (.value (.bool r)) w := by
  subst hr
  unfold execOp
  simp only [ho, hx, hy]
  rfl
theorem ex_neqB {ρ : Operand → Value} {o : Oper} {w : World} (x y : Operand) (t' : TypeId) (ho : o.op = .binOp .neq 4 x y t') {m n : Bool} (hx : ρ x = .bool m) (hy : ρ y = .bool n) {r : Bool} (hr : (m != n) = r) : (execOp ρ o).run Tryz.prog w = .ok (.value (.bool r)) w := by
  subst hr
  unfold execOp
  simp only [ho, hx, hy]
  cases m <;> cases n <;> rfl
theorem ex_eqInt' {ρ : Operand → Value} {o : Oper} {w : World} (x y : Operand) (t' : TypeId) (ho : o.op = .binOp .eql 3 x y t') {m n : Int} (hx : ρ x = .int .i64 m) (hy : ρ y = .int .i64 n) {r : Bool} (hr : (m == n) = r) : (execOp ρ o).run Tryz.prog w = .ok (.value (.bool r)) w := by
  subst hr
  unfold execOp
  simp only [ho, hx, hy]
  rfl
theorem uM {w : World} {B : Nat} {cs : List Value} {o : zR} (h : ObjIn w B (.agg cs.toArray) o) : ∃ x0 x1 x2 x3 x4 x5 x6 x7 x8 x9, cs = [x0, x1, x2, x3, x4, x5, x6, x7, x8, x9] ∧ ChIn w B (.agg [x1, x2, x3, x4].toArray) o.2.1 := by
  obtain ⟨hok, hops, hau, _, _, Ad, cd, Ao, co, Ap, cp, Ac, cc, hv, sd, so, _, _⟩ := h
  injection hv with hv
  have h2 := congrArg Array.toList hv
  rw [List.toList_toArray] at h2
  exact ⟨_, _, _, _, _, _, _, _, _, _, h2, ⟨hok.1, hops, hau, Ad, cd, Ao, co, rfl, sd, so⟩⟩
theorem mid4 {x0 x1 x2 x3 x4 x5 x6 x7 x8 x9 v : Value} {j : Nat} (hj : [x1, x2, x3, x4][j]? = some v) : [x0, x1, x2, x3, x4, x5, x6, x7, x8, x9][1 + j]? = some v := by
  rw [Nat.add_comm]
  rcases j with _ | _ | _ | _ | j
  · exact hj
  · exact hj
  · exact hj
  · exact hj
  · simp at hj
theorem linksL_ok {o : zR} (h : ObjOk o) : IdsOk (Kc o) := by
  unfold Kc
  split
  · exact h.1.2.1
  ·
   split
   · exact IdsOk.app h.2.1 h.2.2.1
   · intro i hi
     simp at hi
theorem linksL_len {o : zR} (h1 : o.2.1.2.1.length ≤ 1099511627776) (h2 : o.2.2.1.length + o.2.2.2.1.length ≤ 1099511627776) : (Kc o).length ≤ 1099511627776 := by
  unfold Kc
  split
  · exact h1
  · split
    · rw [List.length_append]; exact h2
    · exact Nat.zero_le _
theorem idD_length (o : zR) : (idD o).length = 32 := by
  unfold idD
  split
  · exact Z8 _
  · simp
theorem szL_light {l : List OpD} (h : l.length ≤ 60) (ht : ∀ x ∈ l, x.2.2.2.1.size ≤ 1099511627776) : szL l ≤ 4611686018427387904 := by
  have h2 : ∀ l : List OpD, (∀ x ∈ l, x.2.2.2.1.size ≤ 1099511627776) → szL l ≤ l.length * 1099511627777 := by
    intro l
    induction l with
    | nil => intro _; exact qR _
    | cons x t ih =>
      intro ht
      have h3 := ih fun y hy => ht y (List.mem_cons_of_mem _ hy)
      have h4 : szL (x :: t) = vn x + szL t := by simp [szL]
      have h5 : vn x ≤ 1099511627777 := by
        have h6 := ht x (List.mem_cons_self ..)
        have h7 := cntN_le x.2.2.2.1
        unfold vn
        split
        · omega
        · split <;> omega
      rw [h4, List.length_cons]
      omega
  have := h2 l ht
  omega
theorem walk (o : zR) (v : Value) (w : World) (h : ObjIn w w.heap.size v o) (ht : ∀ x ∈ o.2.1.2.2.2, x.2.2.2.1.size ≤ 1099511627776) (hg : Glob w) (hsg : ShaG w) :
    Calls Tryz.prog 4 #[v] w fun e w' => e = .returned (.bool true) ∧ Below w.heap.size w w' := by
  have HIN0 := hid h; have HG := hid hg; have HSG := hid hsg; have HT := hid ht
  obtain ⟨c0, rfl, hl0, h10⟩ := h.ten
  have HIN := HIN0; have HL0 := hid hl0; have H10 := hid h10
  clear h hg hsg ht HIN0 hl0 h10
  rcases Bool.eq_false_or_eq_true (Zb o) with hlb | hlb
  rotate_left
  ·
   have HLB := hid hlb
   clear hlb
   go_enter Tryz.func4, Tryz.ntmps4
   go_upto_region 1 with (first
     | (with_reducible refine kz ?_
        refine ko (by rfl) 30 _ rfl c0 (.agg c0.toArray) rfl rfl (by rw [HL0.out]; kernel_rfl) ?_
        intro W0 hb0 hz0 hs0
        have HB0 := hid hb0; have HZ0 := hid hz0; have HS0 := hid hs0
        clear hb0 hz0 hs0))
   obtain ⟨z, hz⟩ : ∃ z, w.heap.size = z := ⟨_, rfl⟩
   have HZL := hid (show z < W0.heap.size by have := HS0.out; omega)
   rw [hz] at HZ0 ⊢
   try go_frame
   clear hz HS0
   go_wp2_with (first
     | (with_reducible refine k7 ?_
        refine k6 (by rfl) (k9 30 _ rfl (p := ⟨z, 0, none⟩) rfl (jP HZ0.out HL0.out)) ?_)
     | (go_at_call 10; refine (Q5 o _ W0 (HIN.out.keep HB0.out |>.more HB0.out.size)).mono ?_; rintro e W1 ⟨hb1, rfl⟩
        rw [HLB.out]
        have HB1 := hid (HB0.out.trans (hb1.mono HB0.out.size))
        have HZ1 := hid ((hb1.block z HZL.out).trans HZ0.out)
        have HZL1 := hid (qL HZL.out hb1.size)
        clear hb1))
   go_ret
   exact ⟨rfl, HB1.out⟩
  obtain ⟨k1, k2, k3, k4⟩ := Ue hlb
  have HLB := hid hlb
  have HL1 := hid (show o.2.1.2.2.2.length ≤ 1000000000 by omega); have HL1b := hid (show o.2.1.2.2.2.length ≤ 1099511627776 by omega); have HL2 := hid (show o.2.1.2.1.length ≤ 1099511627776 by omega); have HL3 := hid (show o.2.2.1.length ≤ 1099511627776 by omega); have HL4 := hid (show o.2.2.2.1.length ≤ 1099511627776 by omega)
  have HLS := hid (show o.2.1.2.1.length ≤ 1073741824 ∧ o.2.2.1.length + o.2.2.2.1.length ≤ 1073741824 by omega)
  have HZS := hid (szL_light k1 HT.out)
  have HDL := hid (idD_length o)
  clear hlb k1 k2 k3 k4
  go_enter Tryz.func4, Tryz.ntmps4
  go_upto_region 1 with (first
    | (with_reducible refine kz ?_
       refine ko (by rfl) 30 _ rfl c0 (.agg c0.toArray) rfl rfl (by rw [HL0.out]; kernel_rfl) ?_
       intro W0 hb0 hz0 hs0
       have HB0 := hid hb0; have HZ0 := hid hz0; have HS0 := hid hs0
       clear hb0 hz0 hs0))
  obtain ⟨z, hz⟩ : ∃ z, w.heap.size = z := ⟨_, rfl⟩
  have HZL := hid (show z < W0.heap.size by have := HS0.out; omega)
  rw [hz] at HZ0 ⊢
  try go_frame
  clear hz HS0
  go_upto_region 3 with (first
    | (with_reducible refine k7 ?_
       refine k6 (by rfl) (k9 30 _ rfl (p := ⟨z, 0, none⟩) rfl (jP HZ0.out HL0.out)) ?_)
    | (go_at_call 10; refine (Q5 o _ W0 (HIN.out.keep HB0.out |>.more HB0.out.size)).mono ?_; rintro e W1 ⟨hb1, rfl⟩
       rw [HLB.out]
       have HB1 := hid (HB0.out.trans (hb1.mono HB0.out.size))
       have HZ1 := hid ((hb1.block z HZL.out).trans HZ0.out)
       have HZL1 := hid (qL HZL.out hb1.size)
       clear hb1))
  have HIW1 := hid ((HIN.out.keep HB1.out).more HB1.out.size)
  have HBW1 := HB1; have HZW1 := HZ1
  by_cases hok : kD o = true ∧ ¬ 262144 < (zA o).length
  focus
    have HR := hid hok.1; have HLE := hid hok.2
    have HER := hid (show Um o = 0 by unfold Um; rw [if_pos hok.1, if_neg hok.2])
    clear hok
    go_upto_region 4 with (first
      | (with_reducible refine k7 ?_
         refine k6 (by rfl) (k9 30 _ rfl (p := ⟨z, 0, none⟩) rfl (jP HZW1.out HL0.out)) ?_)
      | (go_at_call 12; refine (zT o _ W1 HIW1.out HL2.out HL1.out HL3.out HL4.out).mono ?_
         rintro e W2 ⟨v2, rfl, hin2, hcp2, hb2⟩
         have HC2 := hid hin2; have HP2 := hid hcp2
         have HBW2 := hid (HBW1.out.trans (hb2.mono HBW1.out.size))
         have HZW2 := hid ((hb2.block z (qX HZW1.out)).trans HZW1.out)
         have HIW2 := hid ((HIW1.out.keep hb2).more hb2.size)
         clear hin2 hcp2 hb2)
      | (go_at_call 11; refine (KB o _ W2 HC2.out HL2.out HL1b.out HL3.out HL4.out (HG.out.next HBW2.out)).mono ?_
         rintro e W3 ⟨hb, hr⟩
         unfold Ka at hr
         rw [if_pos HR.out, if_neg HLE.out] at hr
         obtain ⟨A3, c3, rfl, hsl, hcc⟩ := hr
         have HS3W3 := hid hsl
         clear hsl hcc
         have HBW3 := hid (HBW2.out.trans (hb.mono HBW2.out.size))
         have HZW3 := hid ((hb.block z (qX HZW2.out)).trans HZW2.out)
         have HIW3 := hid ((HIW2.out.keep hb).more hb.size)
         clear hb))
    go_upto_region 5 with (first
      | (with_reducible refine k7 ?_
         refine k6 (by rfl) (k9 30 _ rfl (p := ⟨z, 0, none⟩) rfl (jP HZW3.out HL0.out)) ?_)
      | (go_at_call 13; refine (vN o _ W3 HIW3.out HL2.out HL1b.out HL3.out HL4.out).mono ?_
         rintro e W5 ⟨hb, hr⟩
         unfold Ka at hr
         rw [if_pos HR.out, if_neg HLE.out] at hr
         obtain ⟨A5, c5, rfl, hsl, hcc⟩ := hr
         have HS5W5 := hid hsl
         clear hsl hcc
         have HS3W5 := hid ((HS3W3.out.keep hb).more hb.size)
         have HBW5 := hid (HBW3.out.trans (hb.mono HBW3.out.size))
         have HZW5 := hid ((hb.block z (qX HZW3.out)).trans HZW3.out)
         have HIW5 := hid ((HIW3.out.keep hb).more hb.size)
         clear hb))
    go_upto_region 6 with (first
      | (with_reducible refine k7 ?_
         refine k6 (by rfl) (k9 30 _ rfl (p := ⟨z, 0, none⟩) rfl (jP HZW5.out HL0.out)) ?_)
      | (go_at_call 12; refine (zT o _ W5 HIW5.out HL2.out HL1.out HL3.out HL4.out).mono ?_
         rintro e W6 ⟨v6, rfl, hin6, hcp6, hb6⟩
         have HC6 := hid hin6; have HP6 := hid hcp6
         have HS3W6 := hid ((HS3W5.out.keep hb6).more hb6.size)
         have HS5W6 := hid ((HS5W5.out.keep hb6).more hb6.size)
         have HBW6 := hid (HBW5.out.trans (hb6.mono HBW5.out.size))
         have HZW6 := hid ((hb6.block z (qX HZW5.out)).trans HZW5.out)
         have HIW6 := hid ((HIW5.out.keep hb6).more hb6.size)
         clear hin6 hcp6 hb6)
      | (go_at_call 14; refine (Qi o _ W6 HC6.out HL2.out HL1b.out HL3.out HL4.out (HG.out.next HBW6.out) (HSG.out.next HBW6.out)).mono ?_
         rintro e W7 ⟨rfl, hb⟩
         rw [HER.out]
         have HS3W7 := hid ((HS3W6.out.keep hb).more hb.size)
         have HS5W7 := hid ((HS5W6.out.keep hb).more hb.size)
         have HBW7 := hid (HBW6.out.trans (hb.mono HBW6.out.size))
         have HZW7 := hid ((hb.block z (qX HZW6.out)).trans HZW6.out)
         have HIW7 := hid ((HIW6.out.keep hb).more hb.size)
         clear hb)
      | (with_reducible refine kw ?_
         refine ku (by rfl) 47 rfl (List.replicate 32 (.int .u8 0)) (by kernel_rfl) ?_
         intro Wa hba hza hsa
         have HBa := hid hba; have HZa := hid hza; have HSa := hid hsa
         clear hba hza hsa)
      | (with_reducible refine ks ?_
         refine km (by rfl) 47 _ _ rfl W7.heap.size 0 [] (List.replicate 32 (.int .u8 0)) [] (idV (idD o)) 47 (.agg (idV (idD o)).toArray) rfl rfl rfl rfl (by simpa using HZa.out) (by rw [J2, HDL.out]; rfl) (by rw [J2, HDL.out]; kernel_rfl) (ky _) ?_
         intro W8 hb8 hy8 hs8
         have HB78 := hid (HBa.out.trans (hb8.below HBa.out.size (fun k hk e => by have e' : k = W7.heap.size := e; omega)))
         have HY8 : Hid (W8.heap[W7.heap.size]? = some (.cells (idV (idD o)).toArray 47 (0, 0))) := hid (by simpa using hy8)
         clear hb8 hy8 hs8))
    obtain ⟨z7, hz7⟩ : ∃ x, W7.heap.size = x := ⟨_, rfl⟩
    have HZ7L := hid (show z7 < W8.heap.size by rw [← hz7]; exact (qX HY8.out))
    rw [hz7] at HY8 ⊢
    try go_frame
    have hlen : (zA o).length ≤ 1099511627776 := by have := HLE.out; omega
    have HS3W8 := hid ((HS3W7.out.keep HB78.out).more HB78.out.size)
    have HS5W8 := hid ((HS5W7.out.keep HB78.out).more HB78.out.size)
    have HBW8 := hid (HBW7.out.trans (HB78.out.mono HBW7.out.size))
    have HZW8 := hid ((HB78.out.block z (qX HZW7.out)).trans HZW7.out)
    have HIW8 := hid ((HIW7.out.keep HB78.out).more HB78.out.size)
    obtain ⟨sv, hsv⟩ : ∃ s : ByteArray, ⟨(zA o).toArray⟩ = s := ⟨_, rfl⟩
    have HV1 := hid (fun (u : World) (hu : Below W8.heap.size W8 u) => (show (convert 22 9 (.slice A3 (zA o).length c3)).run Tryz.prog u = .ok (.string sv) u from hsv ▸ conv8 (c := c3) (HS3W8.out.keep hu) (objE_pos o)))
    have HV2 := hid (fun (u : World) (hu : Below W8.heap.size W8 u) => (show (convert 22 9 (.slice A5 (zA o).length c5)).run Tryz.prog u = .ok (.string sv) u from hsv ▸ conv8 (c := c5) (HS5W8.out.keep hu) (objE_pos o)))
    obtain ⟨er, her⟩ : ∃ er : Int, 0 = er := ⟨_, rfl⟩
    have HE0 := hid (show (er == 0) = true by rw [← her]; rfl)
    have HE1 := hid (show (er != 0) = false by rw [← her]; rfl)
    have HID := hid (show idD o = ZN (zA o) by unfold idD; rw [if_pos HER.out])
    clear hsv
    have HFK := hid (fun (u : World) (hu : Below W8.heap.size W8 u) => (show (fun u => u.rangeAt z 0 c0 ∧ (convert 22 9 (.slice A3 (zA o).length c3)).run Tryz.prog u = .ok (.string sv) u ∧ (convert 22 9 (.slice A5 (zA o).length c5)).run Tryz.prog u = .ok (.string sv) u) u from ⟨fun j v hj => by rw [qZ]; exact (hu.cell (p := ⟨z, j, none⟩) (qX HZW8.out)).trans ((k5 HZW8.out j).trans hj), HV1.out u hu, HV2.out u hu⟩))
    have hE1 := enE Tryz.func12 rfl
    have hE2 := enE Tryz.func15 rfl
    have hE3 := enE Tryz.func16 rfl
    refine rN 16 (fun u => u.rangeAt z 0 c0 ∧ (convert 22 9 (.slice A3 (zA o).length c3)).run Tryz.prog u = .ok (.string sv) u ∧ (convert 22 9 (.slice A5 (zA o).length c5)).run Tryz.prog u = .ok (.string sv) u) (HFK.out _ (qD W8.heap.size W8)) fun hF0 => ?_
    refine tw 0 (.slice A3 (zA o).length c3) ?_
    go_frame
    refine tl 1 (.string sv) rfl hF0 (fun w' hw' => uL _ rfl (v := (.slice A3 (zA o).length c3)) rfl hw'.2.1) ?_
    go_frame
    refine tw 2 (.slice A5 (zA o).length c5) ?_
    go_frame
    refine tl 3 (.string sv) rfl hF0 (fun w' hw' => uL _ rfl (v := (.slice A5 (zA o).length c5)) rfl hw'.2.2) ?_
    go_frame
    refine tk 4 (.bool false) rfl (fun w' hw' => qo _ _ _ rfl rfl rfl (by simp)) ?_
    go_frame
    refine tw 5 (.bool false) ?_
    go_frame
    refine tw 6 (.int .i64 0) ?_
    go_frame
    refine tw 7 (.int .i64 0) ?_
    go_frame
    refine tk 8 (.bool false) rfl (fun w' hw' => ex_neqI _ _ _ rfl rfl rfl (by simp)) ?_
    go_frame
    refine tw 9 (.bool false) ?_
    go_frame
    refine tw 10 (.bool false) ?_
    go_frame
    refine tl 11 (.agg c0.toArray) rfl hF0 (fun w' hw' => k9 30 _ rfl (p := ⟨z, 0, none⟩) rfl (qV w' _ _ _ c0 _ hw'.1 Tryz.underlying30 rfl (by rw [HL0.out]; kernel_rfl))) ?_
    go_frame
    refine tl 14 (.agg c0.toArray) rfl hF0 (fun w' hw' => k9 30 _ rfl (p := ⟨z, 0, none⟩) rfl (qV w' _ _ _ c0 _ hw'.1 Tryz.underlying30 rfl (by rw [HL0.out]; kernel_rfl))) ?_
    go_frame
    refine ta 12 ?_
    refine tc #[.agg c0.toArray] hE1 rfl ?_
    refine (zT o _ W8.drew ((HIW8.out.keep (qD _ W8)).more (qD W8.heap.size W8).size) HL2.out HL1.out HL3.out HL4.out).mono ?_
    rintro e U1 ⟨vc, rfl, hin, hcp, hb⟩
    have hu1 := (qD W8.heap.size W8).trans hb
    have HC1 := hid hin
    have HF1 := HFK.out _ hu1
    refine ⟨_, rfl, fun _ _ => HF1, ?_⟩
    go_frame
    refine ta 13 ?_
    refine tc #[vc] hE2 rfl ?_
    refine (Jh o _ U1.heap.size U1 HC1.out (qR _) HL2.out HL1b.out HL3.out HL4.out ((HG.out.next HBW8.out).next hu1)).mono ?_
    rintro e U2 ⟨hb, rfl⟩
    have hu2 := hu1.trans (hb.mono hu1.size)
    have HF2 := HFK.out _ hu2
    refine ⟨_, rfl, fun _ _ => HF2, ?_⟩
    go_frame
    refine ta 15 ?_
    refine tc #[.agg c0.toArray] hE3 rfl ?_
    refine (JE o _ U2 ((HIW8.out.keep hu2).more hu2.size) HL2.out HL1b.out HL3.out HL4.out).mono ?_
    rintro e U3 ⟨hb, rfl⟩
    have hu3 := hu2.trans (hb.mono hu2.size)
    have HF3 := HFK.out _ hu3
    refine ⟨_, rfl, fun _ _ => HF3, ?_⟩
    go_frame
    refine tk 16 (.bool false) rfl (fun w' hw' => ex_neqB _ _ _ rfl rfl rfl (by simp)) ?_
    go_frame
    refine tw 17 (.bool false) ?_
    go_frame
    refine tw 18 (.bool false) ?_
    go_frame
    refine tw 19 (.int .i64 0) ?_
    go_frame
    refine tw 20 (.int .i64 0) ?_
    go_frame
    refine tk 21 (.bool false) rfl (fun w' hw' => Ut _ _ _ rfl rfl rfl (by simp)) ?_
    go_frame
    refine tw 22 (.bool false) ?_
    go_frame
    refine kv (by kernel_rfl) ?_ _
    have HBU3 := hid (HBW8.out.trans (hu3.mono HBW8.out.size))
    have HZU3 := hid ((hu3.block z (qX HZW8.out)).trans HZW8.out)
    have HIU3 := hid ((HIW8.out.keep hu3).more hu3.size)
    have HU38 := hid hu3
    have HYU := hid ((hu3.block z7 HZ7L.out).trans HY8.out)
    clear hu1 hu2 hu3 HF1 HF2 HF3 hF0 hb
    try go_frame
    go_upto_region 8 with fail
    have HSU5 := hid ((HS5W8.out.keep HU38.out).more HU38.out.size)
    have HFK8 := hid (fun (u : World) (hu : Below U3.heap.size U3 u) => (show (fun u => u.rangeAt z7 0 (idV (idD o))) u from fun j v hj => by rw [qZ]; exact (hu.cell (p := ⟨z7, j, none⟩) (qX HYU.out)).trans ((k5 HYU.out j).trans hj)))
    have HEQ := hid (fun (u : World) => (jX HDL.out HDL.out u).trans (by rw [dT rfl]))
    have hE4 := enE Tryz.func17 rfl
    refine rN 8 (fun u => u.rangeAt z7 0 (idV (idD o))) (HFK8.out _ (qD U3.heap.size U3)) fun hF8 => ?_
    refine tw 0 (.int .i64 0) ?_
    go_frame
    refine tk 1 (.bool true) rfl (fun w' hw' => ex_eqlE _ _ _ rfl rfl rfl rfl) ?_
    go_frame
    refine tw 2 (.bool true) ?_
    go_frame
    refine tl 3 (.agg (idV (idD o)).toArray) rfl hF8 (fun w' hw' => k9 47 _ rfl (p := ⟨z7, 0, none⟩) rfl (qV w' _ _ _ (idV (idD o)) _ hw' Tryz.underlying47 rfl (by rw [J2, HDL.out]; kernel_rfl))) ?_
    go_frame
    refine tw 4 (.slice A5 (zA o).length c5) ?_
    go_frame
    refine ta 5 ?_
    refine tc #[.slice A5 (zA o).length c5] hE4 rfl ?_
    refine (refSum_any (zA o) A5 c5 U3.drew ((HSU5.out.keep (qD _ U3)).more (qD U3.heap.size U3).size) hlen).mono ?_
    rintro e U4 ⟨rfl, hb⟩
    rw [← HID.out]
    have hu4 := (qD U3.heap.size U3).trans hb
    have HF4 := HFK8.out _ hu4
    refine ⟨_, rfl, fun _ _ => HF4, ?_⟩
    go_frame
    refine tk 6 (.bool false) rfl (fun w' hw' => kN 47 _ _ _ rfl (xs := (idV (idD o)).toArray) (ys := (idV (idD o)).toArray) rfl rfl (r := true) eqId.noGuard (HEQ.out w')) ?_
    go_frame
    refine tw 7 (.bool false) ?_
    go_frame
    refine tw 8 (.bool false) ?_
    go_frame
    refine tw 9 (.int .i64 0) ?_
    go_frame
    refine tk 10 (.bool false) rfl (fun w' hw' => Ut _ _ _ rfl rfl rfl rfl) ?_
    go_frame
    refine tw 11 (.bool false) ?_
    go_frame
    refine tn 12 ?_
    go_frame
    refine tn 13 ?_
    go_frame
    refine tn 14 ?_
    go_frame
    refine tw 15 (.bool false) ?_
    go_frame
    refine tw 16 (.bool false) ?_
    go_frame
    refine kv (by kernel_rfl) ?_ _
    have hu9 := hu4
    obtain ⟨U9, hU9⟩ : ∃ u, U4 = u := ⟨_, rfl⟩
    rw [hU9] at hu9 ⊢
    have HBU9 := hid (HBU3.out.trans (hu9.mono HBU3.out.size))
    have HZU9 := hid ((hu9.block z (qX HZU3.out)).trans HZU3.out)
    have HIU9 := hid ((HIU3.out.keep hu9).more hu9.size)
    clear hU9 hu9 hF8 hu4 HF4 hb
  rotate_left
  focus
    obtain ⟨er, her⟩ : ∃ er : Int, Um o = er := ⟨_, rfl⟩
    have hno : er ≠ 0 := by
      rw [← her]
      unfold Um
      split
      · split
        · decide
        · exact absurd ⟨‹_›, ‹_›⟩ hok
      · decide
    have HER := hid her
    have HE0 := hid (show (er == 0) = false by rw [beq_eq_false_iff_ne]; exact hno)
    have HE1 := hid (show (er != 0) = true by rw [bne_iff_ne]; exact hno)
    have HID := hid (show idD o = List.replicate 32 0 by unfold idD; rw [her, if_neg hno])
    have HNO : Hid (∀ (e : Ending) (w' : World), Ka o e w' → e = .returned (.tuple #[.slice none 0 0, .int .i64 er])) := hid (fun e w' h => by
      unfold Ka at h
      rw [← her]
      unfold Um
      split at h
      ·
       rename_i hr
       rw [if_pos hr]
       split at h
       · rename_i h2; rw [if_pos h2]; exact h
       · rename_i h2; exact absurd ⟨hr, h2⟩ hok
      · rename_i hr
        rw [if_neg hr]; exact h)
    clear hok her hno
    go_upto_region 4 with (first
      | (with_reducible refine k7 ?_
         refine k6 (by rfl) (k9 30 _ rfl (p := ⟨z, 0, none⟩) rfl (jP HZW1.out HL0.out)) ?_)
      | (go_at_call 12; refine (zT o _ W1 HIW1.out HL2.out HL1.out HL3.out HL4.out).mono ?_
         rintro e W2 ⟨v2, rfl, hin2, hcp2, hb2⟩
         have HC2 := hid hin2; have HP2 := hid hcp2
         have HBW2 := hid (HBW1.out.trans (hb2.mono HBW1.out.size))
         have HZW2 := hid ((hb2.block z (qX HZW1.out)).trans HZW1.out)
         have HIW2 := hid ((HIW1.out.keep hb2).more hb2.size)
         clear hin2 hcp2 hb2)
      | (go_at_call 11; refine (KB o _ W2 HC2.out HL2.out HL1b.out HL3.out HL4.out (HG.out.next HBW2.out)).mono ?_
         rintro e W3 ⟨hb, hr⟩
         obtain rfl := HNO.out _ _ hr
         clear hr
         have HBW3 := hid (HBW2.out.trans (hb.mono HBW2.out.size))
         have HZW3 := hid ((hb.block z (qX HZW2.out)).trans HZW2.out)
         have HIW3 := hid ((HIW2.out.keep hb).more hb.size)
         clear hb))
    go_upto_region 5 with (first
      | (with_reducible refine k7 ?_
         refine k6 (by rfl) (k9 30 _ rfl (p := ⟨z, 0, none⟩) rfl (jP HZW3.out HL0.out)) ?_)
      | (go_at_call 13; refine (vN o _ W3 HIW3.out HL2.out HL1b.out HL3.out HL4.out).mono ?_
         rintro e W5 ⟨hb, hr⟩
         obtain rfl := HNO.out _ _ hr
         clear hr
         have HBW5 := hid (HBW3.out.trans (hb.mono HBW3.out.size))
         have HZW5 := hid ((hb.block z (qX HZW3.out)).trans HZW3.out)
         have HIW5 := hid ((HIW3.out.keep hb).more hb.size)
         clear hb))
    go_upto_region 6 with (first
      | (with_reducible refine k7 ?_
         refine k6 (by rfl) (k9 30 _ rfl (p := ⟨z, 0, none⟩) rfl (jP HZW5.out HL0.out)) ?_)
      | (go_at_call 12; refine (zT o _ W5 HIW5.out HL2.out HL1.out HL3.out HL4.out).mono ?_
         rintro e W6 ⟨v6, rfl, hin6, hcp6, hb6⟩
         have HC6 := hid hin6; have HP6 := hid hcp6
         have HBW6 := hid (HBW5.out.trans (hb6.mono HBW5.out.size))
         have HZW6 := hid ((hb6.block z (qX HZW5.out)).trans HZW5.out)
         have HIW6 := hid ((HIW5.out.keep hb6).more hb6.size)
         clear hin6 hcp6 hb6)
      | (go_at_call 14; refine (Qi o _ W6 HC6.out HL2.out HL1b.out HL3.out HL4.out (HG.out.next HBW6.out) (HSG.out.next HBW6.out)).mono ?_
         rintro e W7 ⟨rfl, hb⟩
         rw [HER.out]
         have HBW7 := hid (HBW6.out.trans (hb.mono HBW6.out.size))
         have HZW7 := hid ((hb.block z (qX HZW6.out)).trans HZW6.out)
         have HIW7 := hid ((HIW6.out.keep hb).more hb.size)
         clear hb)
      | (with_reducible refine kw ?_
         refine ku (by rfl) 47 rfl (List.replicate 32 (.int .u8 0)) (by kernel_rfl) ?_
         intro Wa hba hza hsa
         have HBa := hid hba; have HZa := hid hza; have HSa := hid hsa
         clear hba hza hsa)
      | (with_reducible refine ks ?_
         refine km (by rfl) 47 _ _ rfl W7.heap.size 0 [] (List.replicate 32 (.int .u8 0)) [] (idV (idD o)) 47 (.agg (idV (idD o)).toArray) rfl rfl rfl rfl (by simpa using HZa.out) (by rw [J2, HDL.out]; rfl) (by rw [J2, HDL.out]; kernel_rfl) (ky _) ?_
         intro W8 hb8 hy8 hs8
         have HB78 := hid (HBa.out.trans (hb8.below HBa.out.size (fun k hk e => by have e' : k = W7.heap.size := e; omega)))
         have HY8 : Hid (W8.heap[W7.heap.size]? = some (.cells (idV (idD o)).toArray 47 (0, 0))) := hid (by simpa using hy8)
         clear hb8 hy8 hs8))
    obtain ⟨z7, hz7⟩ : ∃ x, W7.heap.size = x := ⟨_, rfl⟩
    have HZ7L := hid (show z7 < W8.heap.size by rw [← hz7]; exact (qX HY8.out))
    rw [hz7] at HY8 ⊢
    try go_frame
    have HBW8 := hid (HBW7.out.trans (HB78.out.mono HBW7.out.size))
    have HZW8 := hid ((HB78.out.block z (qX HZW7.out)).trans HZW7.out)
    have HIW8 := hid ((HIW7.out.keep HB78.out).more HB78.out.size)
    obtain ⟨sv, hsv⟩ : ∃ s : ByteArray, (⟨#[]⟩ : ByteArray) = s := ⟨_, rfl⟩
    have HV1 := hid (fun (u : World) (hu : Below W8.heap.size W8 u) => (show (convert 22 9 (.slice none 0 0)).run Tryz.prog u = .ok (.string sv) u from hsv ▸ Lib.run_convert_nil_bytes (P := Tryz.prog) u 22 9 5 0 Tryz.underlying22 Tryz.underlying5 Tryz.underlying9))
    have HV2 := HV1
    clear hsv
    have HFK := hid (fun (u : World) (hu : Below W8.heap.size W8 u) => (show (fun u => u.rangeAt z 0 c0 ∧ (convert 22 9 (.slice none 0 0)).run Tryz.prog u = .ok (.string sv) u ∧ (convert 22 9 (.slice none 0 0)).run Tryz.prog u = .ok (.string sv) u) u from ⟨fun j v hj => by rw [qZ]; exact (hu.cell (p := ⟨z, j, none⟩) (qX HZW8.out)).trans ((k5 HZW8.out j).trans hj), HV1.out u hu, HV2.out u hu⟩))
    have hE1 := enE Tryz.func12 rfl
    have hE2 := enE Tryz.func15 rfl
    have hE3 := enE Tryz.func16 rfl
    refine rN 16 (fun u => u.rangeAt z 0 c0 ∧ (convert 22 9 (.slice none 0 0)).run Tryz.prog u = .ok (.string sv) u ∧ (convert 22 9 (.slice none 0 0)).run Tryz.prog u = .ok (.string sv) u) (HFK.out _ (qD W8.heap.size W8)) fun hF0 => ?_
    refine tw 0 (.slice none 0 0) ?_
    go_frame
    refine tl 1 (.string sv) rfl hF0 (fun w' hw' => uL _ rfl (v := (.slice none 0 0)) rfl hw'.2.1) ?_
    go_frame
    refine tw 2 (.slice none 0 0) ?_
    go_frame
    refine tl 3 (.string sv) rfl hF0 (fun w' hw' => uL _ rfl (v := (.slice none 0 0)) rfl hw'.2.2) ?_
    go_frame
    refine tk 4 (.bool false) rfl (fun w' hw' => qo _ _ _ rfl rfl rfl (by simp)) ?_
    go_frame
    refine tw 5 (.bool false) ?_
    go_frame
    refine tw 6 (.int .i64 er) ?_
    go_frame
    refine tw 7 (.int .i64 er) ?_
    go_frame
    refine tk 8 (.bool false) rfl (fun w' hw' => ex_neqI _ _ _ rfl rfl rfl (by simp)) ?_
    go_frame
    refine tw 9 (.bool false) ?_
    go_frame
    refine tw 10 (.bool false) ?_
    go_frame
    refine tl 11 (.agg c0.toArray) rfl hF0 (fun w' hw' => k9 30 _ rfl (p := ⟨z, 0, none⟩) rfl (qV w' _ _ _ c0 _ hw'.1 Tryz.underlying30 rfl (by rw [HL0.out]; kernel_rfl))) ?_
    go_frame
    refine tl 14 (.agg c0.toArray) rfl hF0 (fun w' hw' => k9 30 _ rfl (p := ⟨z, 0, none⟩) rfl (qV w' _ _ _ c0 _ hw'.1 Tryz.underlying30 rfl (by rw [HL0.out]; kernel_rfl))) ?_
    go_frame
    refine ta 12 ?_
    refine tc #[.agg c0.toArray] hE1 rfl ?_
    refine (zT o _ W8.drew ((HIW8.out.keep (qD _ W8)).more (qD W8.heap.size W8).size) HL2.out HL1.out HL3.out HL4.out).mono ?_
    rintro e U1 ⟨vc, rfl, hin, hcp, hb⟩
    have hu1 := (qD W8.heap.size W8).trans hb
    have HC1 := hid hin
    have HF1 := HFK.out _ hu1
    refine ⟨_, rfl, fun _ _ => HF1, ?_⟩
    go_frame
    refine ta 13 ?_
    refine tc #[vc] hE2 rfl ?_
    refine (Jh o _ U1.heap.size U1 HC1.out (qR _) HL2.out HL1b.out HL3.out HL4.out ((HG.out.next HBW8.out).next hu1)).mono ?_
    rintro e U2 ⟨hb, rfl⟩
    have hu2 := hu1.trans (hb.mono hu1.size)
    have HF2 := HFK.out _ hu2
    refine ⟨_, rfl, fun _ _ => HF2, ?_⟩
    go_frame
    refine ta 15 ?_
    refine tc #[.agg c0.toArray] hE3 rfl ?_
    refine (JE o _ U2 ((HIW8.out.keep hu2).more hu2.size) HL2.out HL1b.out HL3.out HL4.out).mono ?_
    rintro e U3 ⟨hb, rfl⟩
    have hu3 := hu2.trans (hb.mono hu2.size)
    have HF3 := HFK.out _ hu3
    refine ⟨_, rfl, fun _ _ => HF3, ?_⟩
    go_frame
    refine tk 16 (.bool false) rfl (fun w' hw' => ex_neqB _ _ _ rfl rfl rfl (by simp)) ?_
    go_frame
    refine tw 17 (.bool false) ?_
    go_frame
    refine tw 18 (.bool false) ?_
    go_frame
    refine tw 19 (.int .i64 er) ?_
    go_frame
    refine tw 20 (.int .i64 er) ?_
    go_frame
    refine tk 21 (.bool false) rfl (fun w' hw' => Ut _ _ _ rfl rfl rfl (by simp)) ?_
    go_frame
    refine tw 22 (.bool false) ?_
    go_frame
    refine kv (by kernel_rfl) ?_ _
    have HBU3 := hid (HBW8.out.trans (hu3.mono HBW8.out.size))
    have HZU3 := hid ((hu3.block z (qX HZW8.out)).trans HZW8.out)
    have HIU3 := hid ((HIW8.out.keep hu3).more hu3.size)
    have HU38 := hid hu3
    have HYU := hid ((hu3.block z7 HZ7L.out).trans HY8.out)
    clear hu1 hu2 hu3 HF1 HF2 HF3 hF0 hb
    try go_frame
    go_upto_region 8 with fail
    have HFK8 := hid (fun (u : World) (hu : Below U3.heap.size U3 u) => (show (fun u => u.rangeAt z7 0 (idV (idD o))) u from fun j v hj => by rw [qZ]; exact (hu.cell (p := ⟨z7, j, none⟩) (qX HYU.out)).trans ((k5 HYU.out j).trans hj)))
    have HEQ := hid (fun (u : World) => (jX HDL.out HDL.out u).trans (by rw [dT rfl]))
    have hE4 := enE Tryz.func17 rfl
    refine rN 17 (fun u => u.rangeAt z7 0 (idV (idD o))) (HFK8.out _ (qD U3.heap.size U3)) fun hF8 => ?_
    refine tw 0 (.int .i64 er) ?_
    go_frame
    refine tk 1 (.bool false) rfl (fun w' hw' => ex_eqlE _ _ _ rfl rfl rfl HE0.out) ?_
    go_frame
    refine tw 2 (.bool false) ?_
    go_frame
    refine tn 3 ?_
    go_frame
    refine tn 4 ?_
    go_frame
    refine tn 5 ?_
    go_frame
    refine tn 6 ?_
    go_frame
    refine tw 7 (.bool false) ?_
    go_frame
    refine tw 8 (.bool false) ?_
    go_frame
    refine tw 9 (.int .i64 er) ?_
    go_frame
    refine tk 10 (.bool true) rfl (fun w' hw' => Ut _ _ _ rfl rfl rfl HE1.out) ?_
    go_frame
    refine tw 11 (.bool true) ?_
    go_frame
    refine tl 12 (.agg (idV (idD o)).toArray) rfl hF8 (fun w' hw' => k9 47 _ rfl (p := ⟨z7, 0, none⟩) rfl (qV w' _ _ _ (idV (idD o)) _ hw' Tryz.underlying47 rfl (by rw [J2, HDL.out]; kernel_rfl))) ?_
    go_frame
    refine tk 13 (.agg (idV (idD o)).toArray) rfl (fun w' hw' => kB 47 #[] rfl (by rw [HID.out]; simp only [List.map_toArray, List.map_nil]; exact Qh _)) ?_
    go_frame
    refine tk 14 (.bool false) rfl (fun w' hw' => kN 47 _ _ _ rfl (xs := (idV (idD o)).toArray) (ys := (idV (idD o)).toArray) rfl rfl (r := true) eqId.noGuard (HEQ.out w')) ?_
    go_frame
    refine tw 15 (.bool false) ?_
    go_frame
    refine tw 16 (.bool false) ?_
    go_frame
    refine kv (by kernel_rfl) ?_ _
    have hu9 := (qD U3.heap.size U3)
    obtain ⟨U9, hU9⟩ : ∃ u, U3.drew = u := ⟨_, rfl⟩
    rw [hU9] at hu9 ⊢
    have HBU9 := hid (HBU3.out.trans (hu9.mono HBU3.out.size))
    have HZU9 := hid ((hu9.block z (qX HZU3.out)).trans HZU3.out)
    have HIU9 := hid ((HIU3.out.keep hu9).more hu9.size)
    clear hU9 hu9 hF8
  all_goals
    try go_frame
    go_upto_region 10 with fail
    obtain ⟨x0, x1, x2, x3, x4, x5, x6, x7, x8, x9, hc0, hcx⟩ := uM HIU9.out
    have HCX := hid hcx; have HC0 := hid hc0
    clear hcx hc0
    have HFK10 := hid (fun (u : World) (hu : Below U9.heap.size U9 u) => (show (fun u => u.rangeAt z 0 c0 ∧ u.rangeAt z 1 [x1, x2, x3, x4]) u from ⟨fun j v hj => by rw [qZ]; exact (hu.cell (p := ⟨z, j, none⟩) (qX HZU9.out)).trans ((k5 HZU9.out (j)).trans hj), fun j v hj => (hu.cell (p := ⟨z, 1 + j, none⟩) (qX HZU9.out)).trans ((k5 HZU9.out (1 + j)).trans (by rw [HC0.out]; exact mid4 hj))⟩))
    have hE1 := enE Tryz.func12 rfl
    have hE5 := enE Tryz.func18 rfl
    have hE6 := enE Tryz.func19 rfl
    have hE7 := enE Tryz.func21 rfl
    have hE8 := enE Tryz.func22 rfl
    have hE9 := enE Tryz.func20 rfl
    have hE10 := enE Tryz.func9 rfl
    have hv0 := (qD U9.heap.size U9)
    have HLL := hid (show o.2.2.1.length + o.2.2.2.1.length ≤ 1099511627776 by have := HLS.out.2; omega)
    refine rN 20 (fun u => u.rangeAt z 0 c0 ∧ u.rangeAt z 1 [x1, x2, x3, x4]) (HFK10.out _ hv0) fun hF10 => ?_
    refine tl 0 (.agg c0.toArray) rfl hF10 (fun w' hw' => k9 30 _ rfl (p := ⟨z, 0, none⟩) rfl (qV w' _ _ _ c0 _ hw'.1 Tryz.underlying30 rfl (by rw [HL0.out]; kernel_rfl))) ?_
    go_frame
    refine tw 4 (.pointer (some ⟨z, 1, none⟩)) ?_
    go_frame
    refine tl 5 (.agg [x1, x2, x3, x4].toArray) rfl hF10 (fun w' hw' => k9 26 _ rfl (p := ⟨z, 1, none⟩) rfl (qV w' _ _ _ [x1, x2, x3, x4] _ hw'.2 Tryz.underlying26 rfl (by kernel_rfl))) ?_
    go_frame
    refine ta 1 ?_
    refine tc #[.agg c0.toArray] hE1 rfl ?_
    refine (zT o _ U9.drew ((HIU9.out.keep hv0).more hv0.size) HL2.out HL1.out HL3.out HL4.out).mono ?_
    rintro e V1 ⟨v1, rfl, hin, -, hb⟩
    have hv1 := hv0.trans (hb.mono hv0.size)
    have HG1 := HFK10.out _ hv1
    obtain ⟨cs1, rfl, -, -⟩ := hin.ten
    obtain ⟨y0, y1, y2, y3, y4, y5, y6, y7, y8, y9, rfl, hch⟩ := uM hin
    have HCY := hid hch
    clear hin hch
    refine ⟨_, rfl, fun _ _ => HG1, ?_⟩
    go_frame
    refine tw 2 (.agg [y1, y2, y3, y4].toArray) ?_
    go_frame
    refine ta 3 ?_
    refine tc #[.agg [y1, y2, y3, y4].toArray] hE5 rfl ?_
    refine (size_any o.2.1 _ V1 HCY.out HL1b.out HZS.out).mono ?_
    rintro e V2 ⟨hb, rfl⟩
    have hv2 := hv1.trans (hb.mono hv1.size)
    have HG2 := HFK10.out _ hv2
    refine ⟨_, rfl, fun _ _ => HG2, ?_⟩
    go_frame
    refine ta 6 ?_
    refine tc #[.agg [x1, x2, x3, x4].toArray] hE6 rfl ?_
    refine (QL o.2.1 _ V2 ((HCX.out.keep hv2).more hv2.size) HL1b.out HZS.out HT.out).mono ?_
    rintro e V3 ⟨hb, rfl⟩
    have hv3 := hv2.trans (hb.mono hv2.size)
    have HG3 := HFK10.out _ hv3
    refine ⟨_, rfl, fun _ _ => HG3, ?_⟩
    go_frame
    refine tk 7 (.bool true) rfl (fun w' hw' => ex_eqInt' _ _ _ rfl rfl rfl (by simp)) ?_
    go_frame
    refine tw 8 (.bool true) ?_
    go_frame
    refine tl 9 (.agg c0.toArray) rfl HG3 (fun w' hw' => k9 30 _ rfl (p := ⟨z, 0, none⟩) rfl (qV w' _ _ _ c0 _ hw'.1 Tryz.underlying30 rfl (by rw [HL0.out]; kernel_rfl))) ?_
    go_frame
    refine tl 12 (.agg c0.toArray) rfl HG3 (fun w' hw' => k9 30 _ rfl (p := ⟨z, 0, none⟩) rfl (qV w' _ _ _ c0 _ hw'.1 Tryz.underlying30 rfl (by rw [HL0.out]; kernel_rfl))) ?_
    go_frame
    refine ta 10 ?_
    refine tc #[.agg c0.toArray] hE1 rfl ?_
    refine (zT o _ V3 ((HIU9.out.keep hv3).more hv3.size) HL2.out HL1.out HL3.out HL4.out).mono ?_
    rintro e V4 ⟨v4, rfl, hin, hcap, hb⟩
    have hv4 := hv3.trans (hb.mono hv3.size)
    have HG4 := HFK10.out _ hv4
    have HI4 := hid hin; have HC4 := hid hcap
    clear hin hcap
    refine ⟨_, rfl, fun _ _ => HG4, ?_⟩
    go_frame
    refine ta 11 ?_
    refine tc #[v4] hE7 rfl ?_
    refine (links_any o _ V4 HI4.out HC4.out HL2.out HLL.out).mono ?_
    rintro e V5 ⟨hb, l1, A1, c1, rfl, sl1, -, hs1, hm1⟩
    have hv5 := hv4.trans (hb.mono hv4.size)
    have HG5 := HFK10.out _ hv5
    have HS1 := hid sl1; have HM1 := hid (And.intro hs1 hm1)
    clear sl1 hs1 hm1
    refine ⟨_, rfl, fun _ _ => HG5, ?_⟩
    go_frame
    refine ta 13 ?_
    refine tc #[.agg c0.toArray] hE8 rfl ?_
    refine (qC o _ V5 ((HIU9.out.keep hv5).more hv5.size) HLS.out.1 HLS.out.2).mono ?_
    rintro e V6 ⟨hb, l2, A2, c2, rfl, sl2, -, hs2, hm2⟩
    have hv6 := hv5.trans (hb.mono hv5.size)
    have HG6 := HFK10.out _ hv6
    obtain rfl : l1 = l2 := set_unique HM1.out.1 hs2 fun x => (HM1.out.2 x).trans (hm2 x).symm
    have HS2 := hid sl2
    have HS1b := hid ((HS1.out.keep hb).more hb.size)
    clear sl2 hs2 hm2
    refine ⟨_, rfl, fun _ _ => HG6, ?_⟩
    go_frame
    refine ta 14 ?_
    refine tc #[.slice A1 l1.length c1, .slice A2 l1.length c2] hE9 rfl ?_
    refine (idsSame_any l1 A1 A2 c1 c2 V6 (qT (qv HM1.out.1 fun x hx => (HM1.out.2 x).1 hx) (linksL_len HL2.out HLL.out)) ((linksL_ok HIU9.out.ok).sub fun x hx => (HM1.out.2 x).1 hx) HS1b.out HS2.out).mono ?_
    rintro e V7 ⟨hb, rfl⟩
    have hv7 := hv6.trans (hb.mono hv6.size)
    have HG7 := HFK10.out _ hv7
    refine ⟨_, rfl, fun _ _ => HG7, ?_⟩
    go_frame
    refine tw 15 (.bool true) ?_
    go_frame
    refine tw 16 (.bool true) ?_
    go_frame
    refine ta 17 ?_
    refine JF _ rfl (by kernel_rfl) (J6 (f := 9) (args := #[]) rfl rfl (fun args w => hE10 w args) (by simp)) ?_
    refine (awake08_any V7 ((HG.out.next HBU9.out).next hv7)).mono ?_
    rintro e V8 ⟨hb, rfl⟩
    have hv8 := hv7.trans (hb.mono hv7.size)
    have HG8 := HFK10.out _ hv8
    refine ⟨_, rfl, fun _ _ => HG8, ?_⟩
    go_frame
    refine tw 18 (.bool true) ?_
    go_frame
    refine tw 19 (.bool true) ?_
    go_frame
    refine kv (by kernel_rfl) ?_ _
    try go_frame
    go_wp2_with fail
    go_ret
    exact ⟨rfl, HBU9.out.trans (hv8.mono HBU9.out.size)⟩
end Go.Proofs.YthjaepmfkgejkaaGreatDoor.objectWrites
