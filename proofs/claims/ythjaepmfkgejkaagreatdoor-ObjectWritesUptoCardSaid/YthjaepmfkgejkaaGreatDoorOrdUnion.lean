/-
  What order.Sort, Set and Union give for ids. Conditions: ids of 32 bytes; at most 2^40 of them.
-/
import Derived.Test.YthjaepmfkgejkaaGreatDoorMerged1
import Derived.Test.YthjaepmfkgejkaaGreatDoorMerged4
import Derived.Test.YthjaepmfkgejkaaGreatDoorOrdMerge
import Derived.Test.YthjaepmfkgejkaaGreatDoorMerged21
import Derived.Test.YthjaepmfkgejkaaGreatDoorMerged26
set_option linter.unusedVariables false
set_option linter.unusedSimpArgs false
set_option maxHeartbeats 4000000
set_option maxRecDepth 100000
namespace Go.Proofs.YthjaepmfkgejkaaGreatDoor
open Lib (hid)
open Go.RowKit Go.Maps
theorem sort_any (l : List (List UInt8)) (A : Option Addr) (c : Nat) (w : World) (hn : l.length ≤ 1099511627776) (hc : l.length ≤ c) (ho : IdsOk l) (hs : Sl w w.heap.size A l.length 32 (kr l)) :
    Calls Tryz.prog 84 #[.slice A l.length c] w (vX l w) := by
  have HO := hid ho; have HS := hid hs
  clear ho hs
  go_enter Tryz.func84, Tryz.ntmps84
  go_wp2_with (first
    | (go_at_call 115; refine (merge_any l.length l A c w (qR _) hn hc HO.out HS.out).mono ?_; rintro e w1 ⟨hb1, l', A', c', rfl, hs1, hc1, hso1, hp1⟩
       have HB1 := hid hb1; have HS1 := hid hs1; have HC1 := hid hc1; have HSO := hid hso1; have HP := hid hp1
       clear hb1 hs1 hc1 hso1 hp1))
  go_ret
  exact ⟨HB1.out, l', A', c', rfl, HS1.out, HC1.out, HSO.out, HP.out⟩
def JZ (l : List (List UInt8)) (w : World) (e : Ending) (w' : World) : Prop :=
  Below w.heap.size w w' ∧ ∃ (l' : List (List UInt8)) (A : Option Addr) (c : Nat), e = .returned (.slice A l'.length c) ∧ Sl w' w'.heap.size A l'.length 32 (kr l') ∧ l'.length ≤ c ∧ kI l' = true ∧ ∀ x, x ∈ l' ↔ x ∈ l
structure DdAt (w1 : World) (s out : List (List UInt8)) (k : Nat) (Ao : Option Addr) (no co : Nat) (w : World) : Prop where
  dd : Dd s out k
  bel : Below w1.heap.size w1 w
  eno : out.length = no
  own : w.ownsRow w1.heap.size 47 32 (.slice Ao no co) no (kr out)
  oko : IdsOk out
  len : no ≤ k
theorem DdAt.on {w1 w w2 : World} {s out : List (List UInt8)} {k : Nat} {Ao : Option Addr} {no co : Nat} (h : DdAt w1 s out k Ao no co w) (hb : Below w.heap.size w w2) : DdAt w1 s out k Ao no co w2 :=
  ⟨h.dd, h.bel.trans (hb.mono h.bel.size), h.eno, (But.of_below (X := NoB) hb).own h.own (fun _ _ q => q), h.oko, h.len⟩
theorem set_any (l : List (List UInt8)) (A : Option Addr) (c : Nat) (w : World) (hn : l.length ≤ 1099511627776) (hc : l.length ≤ c) (ho : IdsOk l) (hs : Sl w w.heap.size A l.length 32 (kr l)) :
    Calls Tryz.prog 46 #[.slice A l.length c] w (JZ l w) := by
  have HO := hid ho; have HS := hid hs
  clear ho hs
  go_enter Tryz.func46, Tryz.ntmps46
  go_wp2_with (first
    | (go_at_call 84; refine (sort_any l A c w hn hc HO.out HS.out).mono ?_; rintro e w1 ⟨hb1, s, A', c', rfl, hs1, hc1, hso1, hp1⟩
       have HB1 := hid hb1; have HSS := hid hs1; have HSO := hid hso1; have HP := hid hp1
       clear hb1 hs1 hc1 hso1 hp1))
  have hsn : s.length ≤ 1099511627776 := by rw [HP.out.length_eq]; exact hn
  have HOS := hid (HO.out.sub (a := s) fun i hi => HP.out.mem_iff.1 hi)
  go_loopw [3, 9] (fun t3 t9 wr => ∃ (k : Nat) (out : List (List UInt8)) (Ao : Option Addr) (no co : Nat), k ≤ s.length ∧ t9 = .int .i64 (k : Int) ∧ t3 = .slice Ao no co ∧ Hid (DdAt w1 s out k Ao no co wr)) (fun _ t9 _ => s.length - (intOf t9).toNat)
  case atStart => exact ⟨0, [], none, 0, 0, Nat.zero_le _, rfl, rfl, hid ⟨Dd.start _, qB _ _, rfl, World.ownsRow_nil _ _ _ _, fun i hi => absurd hi (by simp), qR _⟩⟩
  case round =>
    obtain ⟨k, out, Ao, no, co, hk, rfl, rfl, HAT⟩ := hrel
    by_cases hlt : k < s.length
    ·
     have hlen0 := HAT.out.len
     obtain ⟨b, off, rfl, hbl, hcl⟩ := (HSS.out.keep HAT.out.bel).2 (by omega)
     have i0 : (0 : Int) ≤ (k : Int) := by omega
     have i1 : (k : Int) < (s.length : Int) := by omega
     have HROW := hid (Sl.id (B := 0) HOS.out hcl (i := k) hlt)
     have HX := hid (show Ke s[k] from HOS.out _ (List.getElem_mem hlt))
     have HXE := hid (show ∃ y, y = s[k] from ⟨_, rfl⟩)
     clear hcl hbl
     obtain ⟨x, hx⟩ : ∃ y, s[k] = y := ⟨_, rfl⟩
     rw [hx] at HROW HX
     have HXK := hid hx
     clear hx HXE
     go_upto_region 5 with (first
       | (with_reducible refine k7 ?_
          refine zE rfl 47 _ rfl b _ rfl (idV x) _ HROW.out Tryz.underlying47 rfl (by rw [k8, show x.length = 32 from HX.out]; exact kt) ?_)
       | (with_reducible refine kw ?_
          refine ku (by rfl) 47 rfl (idV zero32) (JV _) ?_
          intro Wa hba hya hsa
          have HBa := hid hba; have HYa := hid hya; have HSa := hid hsa
          clear hba hya hsa)
       | (with_reducible refine ks ?_
          refine km (by rfl) 47 _ _ rfl wr.heap.size 0 [] (idV zero32) [] (idV x) 47 _ rfl rfl rfl rfl (by simpa using HYa.out) (by rw [k8, k8, show x.length = 32 from HX.out]; rfl) (by rw [k8, show x.length = 32 from HX.out]; exact kt) (ky _) ?_
          intro Wb hbb hyb hsb
          have HBb := hid (HBa.out.trans (hbb.below (by have := HSa.out; omega) (fun k hk e => by omega)))
          have HYb : Hid (Wb.heap[wr.heap.size]? = some (.cells (idV x).toArray 47 (0, 0))) := hid (by simpa using hyb)
          have HLb := hid (show wr.heap.size < Wb.heap.size by have := HSa.out; omega)
          clear hbb hyb hsb))
     obtain ⟨zb, hzb⟩ : ∃ z, wr.heap.size = z := ⟨_, rfl⟩
     have HAT2 := hid (HAT.out.on (HBb.out.mono (qR _)))
     have HZB0 := hid (show ∀ u : World, Below Wb.heap.size Wb u → u.rangeAt wr.heap.size 0 (idV x) from fun u hu j v hj => by rw [qZ]; exact ((hu.cell (p := ⟨wr.heap.size, j, none⟩) HLb.out).trans (k5 HYb.out j)).trans hj)
     rw [hzb] at HZB0 ⊢
     try go_frame
     clear HAT HBa HYa HSa HBb HYb HLb hzb HROW
     by_cases h0 : no = 0
     ·
      have HE : Hid (out = []) := hid (List.length_eq_zero_iff.1 (by rw [HAT2.out.eno]; exact h0))
      have HADD : Hid (Dd s (out ++ [x]) (k + 1)) := hid (by
        rw [← HXK.out]
        exact HAT2.out.dd.add HSO.out hlt fun hp => by rw [HE.out] at hp; exact absurd hp (by simp))
      have e0 : ((no : Int) == 0) = true := by simp [h0]
      clear h0
      go_wp2_with fail
      refine jl (base := Wb.heap.size) Wb (qB _ _) (by kernel_rfl) (by kernel_rfl) ?_
      repeat (first
        | go_big_quiet_skip
        | (go_big_quiet_want
           (go_big_quiet_op
            go_big_quiet_on)))
      refine wpQuiet_nil ?_
      rintro w' ⟨kk, rfl⟩
      have hk9 := kk.2
      generalize kk.val = w9 at *
      clear kk
      have HAT3 := hid (HAT2.out.on hk9)
      have HZB := hid (fun (u : World) (hu : Below w9.heap.size w9 u) => HZB0.out u (hk9.trans (hu.mono hk9.size)))
      clear hk9 HAT2 HZB0
      go_upto_region 6 with fail
      obtain ⟨w8, hw8⟩ : ∃ u : World, u = w9 := ⟨_, rfl⟩
      subst hw8
      obtain ⟨w3, hw3⟩ : ∃ u : World, u = w8 := ⟨_, rfl⟩
      subst hw3
      have HGW := hid (show w1.heap.size ≤ w3.heap.size from HAT3.out.bel.size)
      have HRF := hid (qB w1.heap.size w3)
      have HZC := hid (HZB.out w3 (qB _ _))
      have hlen := HAT3.out.len
      go_wp2_with (first
        | (with_reducible refine k7 ?_
           refine zE rfl 47 _ rfl zb 0 rfl (idV x) _ HZC.out Tryz.underlying47 rfl (by rw [k8, show x.length = 32 from HX.out]; exact kt) ?_)
        | (refine za (by rfl) 23 _ rfl 47 Tryz.underlying23 (.agg (idV zero32).toArray) 32 32 zg rfl (by decide) (by decide) (idV x) (by rw [k8]; exact HX.out) rfl ?_)
        | (at_builtin; refine ua rfl _ _ 23 rfl w1.heap.size 47 (.agg (idV zero32).toArray) 32 32 Tryz.underlying23 zg rfl (by decide) (.slice Ao no co) no (kr out) rfl HAT3.out.own (idV x) 47 (by rw [k8]; exact HX.out) rfl (ky _) (by unfold maxLen; omega) (by omega) HGW.out ?_
           intro v9 w9 ho9 hgr9
           obtain ⟨A9, c9, rfl⟩ := kg ho9
           have HB9 := hid (hgr9 _ _ (qR _) HRF.out)
           have HO9 := hid ho9
           clear ho9 hgr9))
      have hnext : DdAt w1 s (out ++ [x]) (k + 1) A9 (no + 1) c9 w9 := ⟨HADD.out, HAT3.out.bel.trans HB9.out, by rw [List.length_append, HAT3.out.eno]; rfl, by rw [vA]; exact HO9.out, HAT3.out.oko.app (fun i hi => by rw [List.mem_singleton.1 hi]; exact HX.out), by omega⟩
      go_roundw
      case rel => exact ⟨k + 1, out ++ [x], A9, no + 1, c9, by omega, by go_num, rfl, hid hnext⟩
      case measure => (simp [intOf]) <;> omega
     ·
      have hp : 0 < no := by omega
      have e0 : ((no : Int) == 0) = false := by rw [beq_eq_false_iff_ne]; omega
      have hpo : 0 < out.length := by rw [HAT2.out.eno]; exact hp
      have hlo : out.length - 1 < out.length := by omega
      obtain ⟨y, hy⟩ : ∃ y, out[out.length - 1] = y := ⟨_, rfl⟩
      have HYY := hid (show Ke y by rw [← hy]; exact HAT2.out.oko _ (List.getElem_mem hlo))
      obtain ⟨gb, go, rfl, hgl, hgc⟩ := (Sl.of_own HAT2.out.own).2 hp
      have hrow := Sl.id (B := 0) HAT2.out.oko hgc (i := out.length - 1) hlo
      rw [hy, HAT2.out.eno] at hrow
      have e1 : IntKind.i64.wrap ((no : Int) - 1) = ((no - 1 : Nat) : Int) := by rw [IntWalk.i64_in _ ⟨by omega, by omega⟩]; omega
      have e2 : ((no - 1 : Nat) : Int) < (no : Int) := by omega
      have e3 : (0 : Int) ≤ ((no - 1 : Nat) : Int) := by omega
      have R1 := hid (Wd.row (base := Wb.heap.size) hrow hgl)
      have R2 : Hid (∀ u : World, (∃ n : Wd Wb.heap.size Wb, u = n.val) → u.rangeAt zb 0 (idV x)) := hid (fun u ⟨n, hu⟩ => by rw [hu]; exact HZB0.out n.val n.2)
      by_cases hyx : y = x
      ·
       have HSK : Hid (Dd s out (k + 1)) := hid (HAT2.out.dd.skip hlt hpo (by rw [hy, HXK.out]; exact hyx))
       have HEQ : Hid (∀ u : World, (Op.equalIn 10000 47 (.agg (idV y).toArray) (.agg (idV x).toArray)).run Tryz.prog u = .ok true u) := hid (fun u => (jX HYY.out HX.out u).trans (by rw [dT hyx]))
       clear hyx hy hpo hlo hrow hgl hgc h0
       go_wp2_with fail
       refine jl (base := Wb.heap.size) Wb (qB _ _) (by kernel_rfl) (by kernel_rfl) ?_
       repeat (first
         | go_big_quiet_skip
         | (go_big_quiet_want
            first
              | (refine kG (fun w' hw' => k9 47 _ rfl (p := ⟨gb, go + (no - 1) * 32, none⟩) rfl (qV w' _ _ _ (idV y) _ (R1.out w' hw') Tryz.underlying47 rfl (by rw [k8, show y.length = 32 from HYY.out]; exact kt))) ?_
                 go_big_quiet_on
                 go_frame)
              | (refine kG (fun w' hw' => k9 47 _ rfl (p := ⟨zb, 0, none⟩) rfl (qV w' _ _ _ (idV x) _ (R2.out w' hw') Tryz.underlying47 rfl (by rw [k8, show x.length = 32 from HX.out]; exact kt))) ?_
                 go_big_quiet_on
                 go_frame)
              | (refine kG (fun w' hw' => kN 47 _ _ _ rfl (xs := (idV y).toArray) (ys := ((idV x)).toArray) rfl rfl (r := true) eqId.noGuard (HEQ.out w')) ?_
                 go_big_quiet_on
                 go_frame; try simp only [nTF])
              | (go_big_quiet_op
                 go_big_quiet_on)))
       refine wpQuiet_nil ?_
       rintro w' ⟨kk, rfl⟩
       have hk9 := kk.2
       generalize kk.val = w9 at *
       clear kk
       have HBN := hid (HAT2.out.on hk9)
       clear hk9
       go_wp2_with fail
       go_roundw
       case rel => exact ⟨k + 1, out, _, no, co, by omega, by go_num, rfl, hid ⟨HSK.out, HBN.out.bel, HBN.out.eno, HBN.out.own, HBN.out.oko, by have := HBN.out.len; omega⟩⟩
       case measure => (simp [intOf]) <;> omega
      ·
       have HADD : Hid (Dd s (out ++ [x]) (k + 1)) := hid (by
         rw [← HXK.out]
         exact HAT2.out.dd.add HSO.out hlt fun _ e => hyx (by rw [← hy, e, HXK.out]))
       have HEQ : Hid (∀ u : World, (Op.equalIn 10000 47 (.agg (idV y).toArray) (.agg (idV x).toArray)).run Tryz.prog u = .ok false u) := hid (fun u => (jX HYY.out HX.out u).trans (by rw [dF hyx]))
       clear hyx hy hpo hlo hrow hgl hgc h0
       go_wp2_with fail
       refine jl (base := Wb.heap.size) Wb (qB _ _) (by kernel_rfl) (by kernel_rfl) ?_
       repeat (first
         | go_big_quiet_skip
         | (go_big_quiet_want
            first
              | (refine kG (fun w' hw' => k9 47 _ rfl (p := ⟨gb, go + (no - 1) * 32, none⟩) rfl (qV w' _ _ _ (idV y) _ (R1.out w' hw') Tryz.underlying47 rfl (by rw [k8, show y.length = 32 from HYY.out]; exact kt))) ?_
                 go_big_quiet_on
                 go_frame)
              | (refine kG (fun w' hw' => k9 47 _ rfl (p := ⟨zb, 0, none⟩) rfl (qV w' _ _ _ (idV x) _ (R2.out w' hw') Tryz.underlying47 rfl (by rw [k8, show x.length = 32 from HX.out]; exact kt))) ?_
                 go_big_quiet_on
                 go_frame)
              | (refine kG (fun w' hw' => kN 47 _ _ _ rfl (xs := (idV y).toArray) (ys := ((idV x)).toArray) rfl rfl (r := false) eqId.noGuard (HEQ.out w')) ?_
                 go_big_quiet_on
                 go_frame; try simp only [nTF])
              | (go_big_quiet_op
                 go_big_quiet_on)))
       refine wpQuiet_nil ?_
       rintro w' ⟨kk, rfl⟩
       have hk9 := kk.2
       generalize kk.val = w9 at *
       clear kk
       have HAT3 := hid (HAT2.out.on hk9)
       have HZB := hid (fun (u : World) (hu : Below w9.heap.size w9 u) => HZB0.out u (hk9.trans (hu.mono hk9.size)))
       clear hk9 HAT2 HZB0 R1 R2
       go_upto_region 6 with fail
       obtain ⟨w8, hw8⟩ : ∃ u : World, u = w9 := ⟨_, rfl⟩
       subst hw8
       obtain ⟨w3, hw3⟩ : ∃ u : World, u = w8 := ⟨_, rfl⟩
       subst hw3
       have HGW := hid (show w1.heap.size ≤ w3.heap.size from HAT3.out.bel.size)
       have HRF := hid (qB w1.heap.size w3)
       have HZC := hid (HZB.out w3 (qB _ _))
       have hlen := HAT3.out.len
       go_wp2_with (first
         | (with_reducible refine k7 ?_
            refine zE rfl 47 _ rfl zb 0 rfl (idV x) _ HZC.out Tryz.underlying47 rfl (by rw [k8, show x.length = 32 from HX.out]; exact kt) ?_)
         | (refine za (by rfl) 23 _ rfl 47 Tryz.underlying23 (.agg (idV zero32).toArray) 32 32 zg rfl (by decide) (by decide) (idV x) (by rw [k8]; exact HX.out) rfl ?_)
         | (at_builtin; refine ua rfl _ _ 23 rfl w1.heap.size 47 (.agg (idV zero32).toArray) 32 32 Tryz.underlying23 zg rfl (by decide) (.slice (some ⟨gb, go, none⟩) no co) no (kr out) rfl HAT3.out.own (idV x) 47 (by rw [k8]; exact HX.out) rfl (ky _) (by unfold maxLen; omega) (by omega) HGW.out ?_
            intro v9 w9 ho9 hgr9
            obtain ⟨A9, c9, rfl⟩ := kg ho9
            have HB9 := hid (hgr9 _ _ (qR _) HRF.out)
            have HO9 := hid ho9
            clear ho9 hgr9))
       have hnext : DdAt w1 s (out ++ [x]) (k + 1) A9 (no + 1) c9 w9 := ⟨HADD.out, HAT3.out.bel.trans HB9.out, by rw [List.length_append, HAT3.out.eno]; rfl, by rw [vA]; exact HO9.out, HAT3.out.oko.app (fun i hi => by rw [List.mem_singleton.1 hi]; exact HX.out), by omega⟩
       go_roundw
       case rel => exact ⟨k + 1, out ++ [x], A9, no + 1, c9, by omega, by go_num, rfl, hid hnext⟩
       case measure => (simp [intOf]) <;> omega
    ·
     have i1 : ¬ (k : Int) < (s.length : Int) := by omega
     have HD := hid (HAT.out.dd.done (by omega))
     go_wp2_with fail
     go_ret
     exact ⟨HB1.out.trans (HAT.out.bel.mono HB1.out.size), out, Ao, co, by rw [HAT.out.eno]; rfl, by rw [HAT.out.eno]; exact Sl.of_own HAT.out.own, by rw [HAT.out.eno]; exact Jt HAT.out.own, HD.out.1, fun x => (HD.out.2 x).trans HP.out.mem_iff⟩
theorem union_any (a b : List (List UInt8)) (A B : Option Addr) (ca cb : Nat) (w : World) (hn : a.length + b.length ≤ 1099511627776) (hoa : IdsOk a) (hob : IdsOk b) (hsa : Sl w w.heap.size A a.length 32 (kr a)) (hsb : Sl w w.heap.size B b.length 32 (kr b)) :
    Calls Tryz.prog 47 #[.slice A a.length ca, .slice B b.length cb] w (JZ (a ++ b) w) := by
  have HA := hid hsa; have HBB := hid hsb
  have HSET := hid (fun (W : World) (X : Option Addr) (c : Nat) (h1 : a.length + b.length ≤ c) (h2 : Sl W W.heap.size X (a.length + b.length) 32 (kr a ++ kr b)) => (show Calls Tryz.prog 46 #[.slice X (a.length + b.length) c] W (JZ (a ++ b) W) from by
    have h := set_any (a ++ b) X c W (by rw [List.length_append]; exact hn) (by rw [List.length_append]; exact h1) (hoa.app hob) (by rw [List.length_append, zO]; exact h2)
    rw [List.length_append] at h
    exact h))
  clear hoa hob hsa hsb
  go_enter Tryz.func47, Tryz.ntmps47
  go_wp2_with (first
    | (at_builtin; refine kT (by rfl) _ _ 23 rfl w.heap.size 47 (.agg (idV zero32).toArray) 32 32 Tryz.underlying23 zg rfl (by decide) (.slice none 0 0) 0 [] rfl (World.ownsRow_nil _ _ _ _) A a.length ca w.heap.size (kr a) rfl HA.out (Ky _) (by unfold maxLen; omega) (by omega) (qR _) ?_
       intro v1 w1 ho1 hg1
       rw [qZ, List.nil_append] at ho1
       obtain ⟨A1, c1, rfl⟩ := kg ho1
       have HO1 := hid ho1
       have HB1 := hid ((qB w.heap.size w).grown hg1 (qR _) (fun k e => by simp [Value.ownBlock] at e))
       clear ho1 hg1)
    | (at_builtin; refine kT (by rfl) _ _ 23 rfl w.heap.size 47 (.agg (idV zero32).toArray) 32 32 Tryz.underlying23 zg rfl (by decide) (.slice A1 a.length c1) a.length (kr a) rfl HO1.out B b.length cb w.heap.size (kr b) rfl (HBB.out.keep HB1.out) (Ky _) (by unfold maxLen; omega) (by omega) HB1.out.size ?_
       intro v2 w2 ho2 hg2
       obtain ⟨A2, c2, rfl⟩ := kg ho2
       have HO2 := hid ho2
       have HB2 := hid (HB1.out.grown hg2 HB1.out.size (fun k e => (HO1.out.lt k e).1))
       clear ho2 hg2)
    | (go_at_call 46; refine (HSET.out w2 A2 c2 (Jt HO2.out) (Sl.of_own HO2.out)).mono ?_; rintro e w3 ⟨hb3, l', A3, c3, rfl, r1, r2, r3, r4⟩
       have HB3 := hid (HB2.out.trans (hb3.mono HB2.out.size)); have H1 := hid r1; have H2 := hid r2; have H3 := hid r3; have H4 := hid r4
       clear hb3 r1 r2 r3 r4))
  go_ret
  exact ⟨HB3.out, l', A3, c3, rfl, H1.out, H2.out, H3.out, H4.out⟩
def Kc (o : zR) : List (List UInt8) := if o.1 = 1 then o.2.1.2.1 else if o.1 = 2 then o.2.2.1 ++ o.2.2.2.1 else []
theorem links_any (o : zR) (v : Value) (w : World) (h : ObjIn w w.heap.size v o) (hcap : CapOk v) (hl1 : o.2.1.2.1.length ≤ 1099511627776) (hl2 : o.2.2.1.length + o.2.2.2.1.length ≤ 1099511627776) :
    Calls Tryz.prog 21 #[v] w (JZ (Kc o) w) := by
  obtain ⟨⟨⟨_, oi, _⟩, op1, op2, _⟩, _, _, _, _, Ad, cd, Ao, co, Ap, cp, Ac, cc, rfl, sd, so, sp, sc⟩ := h
  obtain ⟨k, ⟨n, ds, au, os⟩, ⟨ps, cs, a2, ms, st⟩⟩ := o
  dsimp only at *
  have HCD := hid (hcap _ rfl Ad ds.length cd (by simp))
  have HID := hid oi; have HIP := hid op1; have HIC := hid op2; have HSD := hid sd; have HSP := hid sp; have HSC := hid sc
  clear hcap oi op1 op2 sd so sp sc
  go_enter Tryz.func21, Tryz.ntmps21
  go_upto_region 1 with (first
    | (with_reducible refine kz ?_
       refine ko (by rfl) 30 _ rfl [.int .u8 (k.toNat : Int), .int .i64 n, .slice Ad ds.length cd, .string au, .slice Ao os.length co, .slice Ap ps.length cp, .slice Ac cs.length cc, .string a2, .string ms, .int .i64 st] _ rfl rfl (by kernel_rfl) ?_
       intro W0 hb0 hz0 hs0
       have HB0 := hid hb0; have HZ0 := hid hz0
       clear hb0 hz0 hs0))
  have hx0 := (qX HZ0.out)
  have c0 : W0.cell? ⟨w.heap.size, 0, none⟩ = some (.int .u8 (k.toNat : Int)) := k5 HZ0.out 0
  have c2 : W0.cell? ⟨w.heap.size, 2, none⟩ = some (.slice Ad ds.length cd) := k5 HZ0.out 2
  have c2' : W0.cell? ⟨w.heap.size, 1 + 1, none⟩ = some (.slice Ad ds.length cd) := k5 HZ0.out 2
  have c5 : W0.cell? ⟨w.heap.size, 5, none⟩ = some (.slice Ap ps.length cp) := k5 HZ0.out 5
  have c6 : W0.cell? ⟨w.heap.size, 6, none⟩ = some (.slice Ac cs.length cc) := k5 HZ0.out 6
  have c6' : W0.cell? ⟨w.heap.size, 5 + 1, none⟩ = some (.slice Ac cs.length cc) := k5 HZ0.out 6
  try go_frame
  clear hx0 HZ0
  by_cases h1 : k = 1
  ·
   have HLK : Hid (Kc (k, (n, ds, au, os), (ps, cs, a2, ms, st)) = ds) := hid (by unfold Kc; rw [if_pos h1])
   have e1 : ((k.toNat : Int) == 1) = true := by rw [h1]; rfl
   clear h1
   go_wp2_with (first
     | (go_at_call 46; refine (set_any ds Ad cd W0 hl1 HCD.out HID.out ((HSD.out.keep HB0.out).more HB0.out.size)).mono ?_; rintro e w3 ⟨hb3, l', A3, c3, rfl, r1, r2, r3, r4⟩
        have HB1 := hid (HB0.out.trans (hb3.mono HB0.out.size)); have H1 := hid r1; have H2 := hid r2; have H3 := hid r3; have H4 := hid r4
        clear hb3 r1 r2 r3 r4))
   go_ret
   exact ⟨HB1.out, l', A3, c3, rfl, H1.out, H2.out, H3.out, fun x => (H4.out x).trans (by rw [HLK.out])⟩
  ·
   have e1 : ((k.toNat : Int) == 1) = false := by rw [beq_eq_false_iff_ne]; intro h; exact h1 (by apply UInt8.toNat_inj.1; show k.toNat = 1; omega)
   by_cases h2 : k = 2
   ·
    have HLK : Hid (Kc (k, (n, ds, au, os), (ps, cs, a2, ms, st)) = ps ++ cs) := hid (by unfold Kc; rw [if_neg h1, if_pos h2])
    have e2 : ((k.toNat : Int) == 2) = true := by rw [h2]; rfl
    clear h1 h2
    go_wp2_with (first
      | (go_at_call 47; refine (union_any ps cs Ap Ac cp cc W0 hl2 HIP.out HIC.out ((HSP.out.keep HB0.out).more HB0.out.size) ((HSC.out.keep HB0.out).more HB0.out.size)).mono ?_; rintro e w3 ⟨hb3, l', A3, c3, rfl, r1, r2, r3, r4⟩
         have HB1 := hid (HB0.out.trans (hb3.mono HB0.out.size)); have H1 := hid r1; have H2 := hid r2; have H3 := hid r3; have H4 := hid r4
         clear hb3 r1 r2 r3 r4))
    go_ret
    exact ⟨HB1.out, l', A3, c3, rfl, H1.out, H2.out, H3.out, fun x => (H4.out x).trans (by rw [HLK.out])⟩
   ·
    have e2 : ((k.toNat : Int) == 2) = false := by rw [beq_eq_false_iff_ne]; intro h; exact h2 (by apply UInt8.toNat_inj.1; show k.toNat = 2; omega)
    have HLK : Hid (Kc (k, (n, ds, au, os), (ps, cs, a2, ms, st)) = []) := hid (by unfold Kc; rw [if_neg h1, if_neg h2])
    clear h1 h2
    go_wp2_with fail
    go_ret
    exact ⟨HB0.out, [], none, 0, rfl, Sl.nil, qR _, rfl, fun x => by rw [HLK.out]⟩
end Go.Proofs.YthjaepmfkgejkaaGreatDoor
