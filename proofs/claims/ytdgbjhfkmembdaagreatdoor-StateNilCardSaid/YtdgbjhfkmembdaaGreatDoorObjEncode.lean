/-
  What Encode gives. Conditions: lists of at most 2^40; the library's variable MaxLen holds a number.
-/
import Derived.Test.YtdgbjhfkmembdaaGreatDoorShort0
import Derived.Test.YtdgbjhfkmembdaaGreatDoorObjWChange
import Derived.Test.YtdgbjhfkmembdaaGreatDoorObjRight3
import Derived.Test.YtdgbjhfkmembdaaGreatDoorObjDecode2
namespace Go.Proofs.YtdgbjhfkmembdaaGreatDoor
open Go.RowKit Go.Maps
set_option linter.unusedVariables false
set_option linter.unusedSimpArgs false

theorem own_cap {w : World} {base n sz : Nat} {e : TypeId} {A : Option Addr} {m c : Nat} {xs : List Value} (h : w.ownsRow base e sz (.slice A m c) n xs) : n ≤ c := by
  rcases h.2 with ⟨h0, h1⟩ | ⟨g, cap, cur, h0, _, _, h1, _⟩
  · omega
  · injection h0 with _ _ h2
    omega
def EncRes (o : ObjD) (e : Ending) (w' : World) : Prop :=
  if rightB o = true then (if 262144 < (objE o).length then e = .returned (.tuple #[.slice none 0 0, .int .i64 2]) else ∃ A c, e = .returned (.tuple #[.slice A (objE o).length c, .int .i64 0]) ∧ Sl w' w'.heap.size A (objE o).length 1 (idV (objE o)) ∧ (objE o).length ≤ c)
  else e = .returned (.tuple #[.slice none 0 0, .int .i64 1])
set_option maxHeartbeats 4000000 in
set_option maxRecDepth 100000 in
theorem objEncode_any (o : ObjD) (v : Value) (w : World) (h : ObjIn w w.heap.size v o) (hl1 : o.2.1.2.1.length ≤ 1099511627776) (hl2 : o.2.1.2.2.2.length ≤ 1099511627776) (hl3 : o.2.2.1.length ≤ 1099511627776) (hl4 : o.2.2.2.1.length ≤ 1099511627776) (hg : Glob w) :
    Calls Tryz.prog 91 #[v] w fun e w' => Below w.heap.size w w' ∧ EncRes o e w' := by
  have HIN := Lib.hid h
  obtain ⟨ok, hop, ha, ha2, hm, Ad, cd, Ao, co, Ap, cp, Ac, cc, rfl, sd, so, sp, sc⟩ := h
  obtain ⟨k, ⟨n, ds, au, os⟩, ⟨ps, cs, a2, ms, st⟩⟩ := o
  dsimp only at *
  have HG := Lib.hid hg
  have HCI : Hid (ChIn w w.heap.size (.agg [.int .i64 n, .slice Ad ds.length cd, .string au, .slice Ao os.length co].toArray) (n, ds, au, os)) := Lib.hid ⟨ok.1, hop, ha, Ad, cd, Ao, co, rfl, sd, so⟩
  have HMI : Hid (CmIn w w.heap.size (.agg [.slice Ap ps.length cp, .slice Ac cs.length cc, .string a2, .string ms, .int .i64 st].toArray) (ps, cs, a2, ms, st)) := Lib.hid ⟨ok.2, ha2, hm, Ap, cp, Ac, cc, rfl, sp, sc⟩
  have h1 := hl1; have h2 := hl2; have h3 := hl3; have h4 := hl4
  have hwz := (wf_bound ok.2.2.2).2
  clear ok hop ha ha2 hm sd so sp sc hg hl1 hl2 hl3 hl4
  rcases Bool.eq_false_or_eq_true (rightB (k, (n, ds, au, os), (ps, cs, a2, ms, st))) with hr | hr
  · have HR := Lib.hid hr
    by_cases hk : k = 1
    · subst hk
      have HCB : Hid (changeB (n, ds, au, os) = true) := Lib.hid (by unfold rightB at hr; rw [if_pos rfl, Bool.and_eq_true] at hr; exact hr.2)
      have HOE : Hid (objE (1, (n, ds, au, os), (ps, cs, a2, ms, st)) = changeE (n, ds, au, os)) := Lib.hid (by unfold objE; rw [if_pos rfl])
      clear hr
      go_enter Tryz.func91, Tryz.ntmps91
      go_upto_region 1 with (first
        | (with_reducible refine at_box ?_
           refine wp_boxM (by rfl) 70 _ rfl [.int .u8 ((1 : UInt8).toNat : Int), .int .i64 n, .slice Ad ds.length cd, .string au, .slice Ao os.length co, .slice Ap ps.length cp, .slice Ac cs.length cc, .string a2, .string ms, .int .i64 st] _ rfl rfl (by kernel_rfl) ?_
           intro W1 hb1 hz1 hs1
           have HB1 := Lib.hid hb1; have HZ1 := Lib.hid hz1; have HS1 := Lib.hid hs1
           clear hb1 hz1 hs1))
      have HZL0 := Lib.hid (show w.heap.size < W1.heap.size by have := HS1.out; omega)
      obtain ⟨zo, hzo⟩ : ∃ zo, w.heap.size = zo := ⟨_, rfl⟩
      have HZL := HZL0
      rw [hzo] at HZ1 HZL ⊢
      have HZO := Lib.hid hzo
      clear hzo HS1
      go_upto_region 3 with (first
        | (with_reducible refine at_load ?_
           refine wp_val (by rfl) (ex_load 70 _ rfl (p := ⟨zo, 0, none⟩) rfl (qV _ _ _ _ [.int .u8 ((1 : UInt8).toNat : Int), .int .i64 n, .slice Ad ds.length cd, .string au, .slice Ao os.length co, .slice Ap ps.length cp, .slice Ac cs.length cc, .string a2, .string ms, .int .i64 st] _ (fun j u hj => (cells_at0 HZ1.out (0 + j)).trans (by rw [qZ]; exact hj)) Tryz.underlying70 rfl (by kernel_rfl))) ?_)
        | (go_at_call 148; refine (right_any ((1 : UInt8), (n, ds, au, os), (ps, cs, a2, ms, st)) _ w.heap.size W1 (HIN.out.keep HB1.out) HB1.out.size h1 h2 h3 h4 (HG.out.next HB1.out)).mono ?_; rintro e W2 ⟨hb2, rfl⟩
           have HZ2 := Lib.hid ((hb2.block zo HZL.out).trans HZ1.out)
           have HB2 := Lib.hid hb2
           rw [HR.out]
           clear hb2))
      go_upto_region 4 with (first
        | (with_reducible refine at_box ?_
           refine wp_boxM (by rfl) 269 _ rfl [.slice none 0 0] _ rfl rfl (by kernel_rfl) ?_
           intro W3 hb3 hz3 hs3
           have HAT3 : Hid (WrAt W3 W2.heap.size []) := Lib.hid ⟨_, hz3, World.ownsRow_nil _ _ _ _⟩
           have HZ3 := Lib.hid ((hb3.block zo (qX HZ2.out)).trans HZ2.out)
           have HB3 := Lib.hid hb3
           clear hb3 hz3 hs3))
      have HBW : Hid (Below w.heap.size w W2) := Lib.hid (HB1.out.trans (HB2.out.mono HB1.out.size))
      have HBX : Hid (Below w.heap.size w W3) := Lib.hid (HBW.out.trans (HB3.out.mono HBW.out.size))
      have hws : w.heap.size ≤ W2.heap.size := HBW.out.size
      have ck3 : W3.cell? ⟨zo, 0, none⟩ = some (.int .u8 1) := (cells_at0 HZ3.out 0).trans rfl
      go_upto_region 7 with (first
        | (with_reducible refine at_load ?_
           refine wp_val (by rfl) (ex_load 37 _ rfl (p := ⟨zo, 1, none⟩) rfl (qV _ _ _ _ [.int .i64 n, .slice Ad ds.length cd, .string au, .slice Ao os.length co] _ (fun j u hj => (cells_at0 HZ3.out (1 + j)).trans (mid1 hj)) Tryz.underlying37 rfl (by kernel_rfl))) ?_)
        | (go_at_call 149; refine (wchange_any W2.heap.size (n, ds, au, os) _ W3 HAT3.out ((HCI.out.keep HBX.out).more hws) HCB.out).mono ?_; rintro e W4 ⟨rfl, hat, hgo⟩
           have HB4 := Lib.hid ((hgo.belowG HAT3.out))
           obtain ⟨v, hhg, how⟩ := hat
           obtain ⟨Ab, cb, rfl⟩ := own_form' how
           have cb4 : W4.cell? ⟨W2.heap.size, 0, none⟩ = some (.slice Ab _ cb) := cells_at0 hhg 0
           have HOW := Lib.hid how; have HHG := Lib.hid hhg
           clear hgo hhg how))
      by_cases hlong : 262144 < (changeE (n, ds, au, os)).length
      · have i2 : (262144 : Int) < ((changeE (n, ds, au, os)).length : Int) := by omega
        go_wp2_with fail
        go_ret2
        exact ⟨HBX.out.trans (HB4.out.mono hws), by unfold EncRes; rw [if_pos HR.out, HOE.out, if_pos hlong]; rfl⟩
      · have i2 : ¬ (262144 : Int) < ((changeE (n, ds, au, os)).length : Int) := by omega
        go_wp2_with fail
        go_ret2
        exact ⟨HBX.out.trans (HB4.out.mono hws), by unfold EncRes; rw [if_pos HR.out, HOE.out, if_neg hlong]; exact ⟨Ab, cb, rfl, Sl.of_own HOW.out, own_cap HOW.out⟩⟩
    · obtain rfl : k = 2 := by
        unfold rightB at hr
        rw [if_neg hk] at hr
        by_cases h2 : k = 2
        · exact h2
        · rw [if_neg h2] at hr; cases hr
      have hcb : commitB (ps, cs, a2, ms, st) = true := by unfold rightB at hr; rw [if_neg hk, if_pos rfl, Bool.and_eq_true] at hr; exact hr.2
      have HOE : Hid (objE (2, (n, ds, au, os), (ps, cs, a2, ms, st)) = commitE (ps, cs, a2, ms, st)) := Lib.hid (by unfold objE; rw [if_neg (show ¬ (2 : UInt8) = 1 by decide)])
      unfold commitB at hcb
      simp only [Bool.and_eq_true, decide_eq_true_eq] at hcb
      obtain ⟨⟨⟨⟨⟨q1, q2⟩, q3⟩, q4⟩, q5⟩, q6⟩ := hcb
      have hm1 : ps.length ≤ 1048576 := by unfold idsB at q1; simp only [Bool.and_eq_true, decide_eq_true_eq] at q1; omega
      have hm2 : cs.length ≤ 1048576 := by unfold idsB at q2; simp only [Bool.and_eq_true, decide_eq_true_eq] at q2; omega
      have hm3 := q5
      have hm4 : a2.size ≤ 1048576 := qT (authorB_size q3) (by decide)
      have hm5 : ms.size ≤ 1048576 := qT (noteB_size q4) (by decide)
      clear hr hk q1 q2 q3 q4 q5 q6
      go_enter Tryz.func91, Tryz.ntmps91
      go_upto_region 1 with (first
        | (with_reducible refine at_box ?_
           refine wp_boxM (by rfl) 70 _ rfl [.int .u8 ((2 : UInt8).toNat : Int), .int .i64 n, .slice Ad ds.length cd, .string au, .slice Ao os.length co, .slice Ap ps.length cp, .slice Ac cs.length cc, .string a2, .string ms, .int .i64 st] _ rfl rfl (by kernel_rfl) ?_
           intro W1 hb1 hz1 hs1
           have HB1 := Lib.hid hb1; have HZ1 := Lib.hid hz1; have HS1 := Lib.hid hs1
           clear hb1 hz1 hs1))
      have HZL0 := Lib.hid (show w.heap.size < W1.heap.size by have := HS1.out; omega)
      obtain ⟨zo, hzo⟩ : ∃ zo, w.heap.size = zo := ⟨_, rfl⟩
      have HZL := HZL0
      rw [hzo] at HZ1 HZL ⊢
      have HZO := Lib.hid hzo
      clear hzo HS1
      go_upto_region 3 with (first
        | (with_reducible refine at_load ?_
           refine wp_val (by rfl) (ex_load 70 _ rfl (p := ⟨zo, 0, none⟩) rfl (qV _ _ _ _ [.int .u8 ((2 : UInt8).toNat : Int), .int .i64 n, .slice Ad ds.length cd, .string au, .slice Ao os.length co, .slice Ap ps.length cp, .slice Ac cs.length cc, .string a2, .string ms, .int .i64 st] _ (fun j u hj => (cells_at0 HZ1.out (0 + j)).trans (by rw [qZ]; exact hj)) Tryz.underlying70 rfl (by kernel_rfl))) ?_)
        | (go_at_call 148; refine (right_any ((2 : UInt8), (n, ds, au, os), (ps, cs, a2, ms, st)) _ w.heap.size W1 (HIN.out.keep HB1.out) HB1.out.size h1 h2 h3 h4 (HG.out.next HB1.out)).mono ?_; rintro e W2 ⟨hb2, rfl⟩
           have HZ2 := Lib.hid ((hb2.block zo HZL.out).trans HZ1.out)
           have HB2 := Lib.hid hb2
           rw [HR.out]
           clear hb2))
      go_upto_region 4 with (first
        | (with_reducible refine at_box ?_
           refine wp_boxM (by rfl) 269 _ rfl [.slice none 0 0] _ rfl rfl (by kernel_rfl) ?_
           intro W3 hb3 hz3 hs3
           have HAT3 : Hid (WrAt W3 W2.heap.size []) := Lib.hid ⟨_, hz3, World.ownsRow_nil _ _ _ _⟩
           have HZ3 := Lib.hid ((hb3.block zo (qX HZ2.out)).trans HZ2.out)
           have HB3 := Lib.hid hb3
           clear hb3 hz3 hs3))
      have HBW : Hid (Below w.heap.size w W2) := Lib.hid (HB1.out.trans (HB2.out.mono HB1.out.size))
      have HBX : Hid (Below w.heap.size w W3) := Lib.hid (HBW.out.trans (HB3.out.mono HBW.out.size))
      have hws : w.heap.size ≤ W2.heap.size := HBW.out.size
      have ck3 : W3.cell? ⟨zo, 0, none⟩ = some (.int .u8 2) := (cells_at0 HZ3.out 0).trans rfl
      go_upto_region 7 with (first
        | (with_reducible refine at_load ?_
           refine wp_val (by rfl) (ex_load 68 _ rfl (p := ⟨zo, 5, none⟩) rfl (qV _ _ _ _ [.slice Ap ps.length cp, .slice Ac cs.length cc, .string a2, .string ms, .int .i64 st] _ (fun j u hj => (cells_at0 HZ3.out (5 + j)).trans (mid5 hj)) Tryz.underlying68 rfl (by kernel_rfl))) ?_)
        | (go_at_call 150; refine (wcommit_any W2.heap.size (ps, cs, a2, ms, st) _ W3 HAT3.out ((HMI.out.keep HBX.out).more hws) hm1 hm2 hm3 hm4 hm5).mono ?_; rintro e W4 ⟨rfl, hat, hgo⟩
           have HB4 := Lib.hid ((hgo.belowG HAT3.out))
           obtain ⟨v, hhg, how⟩ := hat
           obtain ⟨Ab, cb, rfl⟩ := own_form' how
           have cb4 : W4.cell? ⟨W2.heap.size, 0, none⟩ = some (.slice Ab _ cb) := cells_at0 hhg 0
           have HOW := Lib.hid how; have HHG := Lib.hid hhg
           clear hgo hhg how))
      by_cases hlong : 262144 < (commitE (ps, cs, a2, ms, st)).length
      · have i2 : (262144 : Int) < ((commitE (ps, cs, a2, ms, st)).length : Int) := by omega
        go_wp2_with fail
        go_ret2
        exact ⟨HBX.out.trans (HB4.out.mono hws), by unfold EncRes; rw [if_pos HR.out, HOE.out, if_pos hlong]; rfl⟩
      · have i2 : ¬ (262144 : Int) < ((commitE (ps, cs, a2, ms, st)).length : Int) := by omega
        go_wp2_with fail
        go_ret2
        exact ⟨HBX.out.trans (HB4.out.mono hws), by unfold EncRes; rw [if_pos HR.out, HOE.out, if_neg hlong]; exact ⟨Ab, cb, rfl, Sl.of_own HOW.out, own_cap HOW.out⟩⟩
  · have HR := Lib.hid hr
    clear hr
    go_enter Tryz.func91, Tryz.ntmps91
    go_upto_region 1 with (first
      | (with_reducible refine at_box ?_
         refine wp_boxM (by rfl) 70 _ rfl [.int .u8 (k.toNat : Int), .int .i64 n, .slice Ad ds.length cd, .string au, .slice Ao os.length co, .slice Ap ps.length cp, .slice Ac cs.length cc, .string a2, .string ms, .int .i64 st] _ rfl rfl (by kernel_rfl) ?_
         intro W1 hb1 hz1 hs1
         have HB1 := Lib.hid hb1; have HZ1 := Lib.hid hz1; have HS1 := Lib.hid hs1
         clear hb1 hz1 hs1))
    have HZL0 := Lib.hid (show w.heap.size < W1.heap.size by have := HS1.out; omega)
    obtain ⟨zo, hzo⟩ : ∃ zo, w.heap.size = zo := ⟨_, rfl⟩
    have HZL := HZL0
    rw [hzo] at HZ1 HZL ⊢
    have HZO := Lib.hid hzo
    clear hzo HS1
    go_wp2_with (first
      | (with_reducible refine at_load ?_
         refine wp_val (by rfl) (ex_load 70 _ rfl (p := ⟨zo, 0, none⟩) rfl (qV _ _ _ _ [.int .u8 (k.toNat : Int), .int .i64 n, .slice Ad ds.length cd, .string au, .slice Ao os.length co, .slice Ap ps.length cp, .slice Ac cs.length cc, .string a2, .string ms, .int .i64 st] _ (fun j u hj => (cells_at0 HZ1.out (0 + j)).trans (by rw [qZ]; exact hj)) Tryz.underlying70 rfl (by kernel_rfl))) ?_)
      | (go_at_call 148; refine (right_any (k, (n, ds, au, os), (ps, cs, a2, ms, st)) _ w.heap.size W1 (HIN.out.keep HB1.out) HB1.out.size h1 h2 h3 h4 (HG.out.next HB1.out)).mono ?_; rintro e W2 ⟨hb2, rfl⟩
         have HZ2 := Lib.hid ((hb2.block zo HZL.out).trans HZ1.out)
         have HB2 := Lib.hid hb2
         rw [HR.out]
         clear hb2))
    go_ret2
    exact ⟨HB1.out.trans (HB2.out.mono HB1.out.size), by unfold EncRes; rw [if_neg (by rw [HR.out]; decide)]; rfl⟩
end Go.Proofs.YtdgbjhfkmembdaaGreatDoor
