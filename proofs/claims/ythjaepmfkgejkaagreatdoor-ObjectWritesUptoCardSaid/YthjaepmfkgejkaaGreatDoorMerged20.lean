/-
  What utf.Count and object.Size give. Conditions: texts that lie in memory.
  'append([]T{}, xs...)': a copy of a slice that came in. No conditions; no program.
  'append([]T{}, xs...)' of a slice that is not empty: the copy is a row of the call's own. No conditions; no program.
  The chapter's examples of layer 8 hold (awake). Conditions: the library's variable MaxLen holds a number.
-/
import Derived.Test.YthjaepmfkgejkaaGreatDoorMerged1
import Derived.Test.YthjaepmfkgejkaaGreatDoorObjReadOp
import Derived.Test.YthjaepmfkgejkaaGreatDoorMerged14
import Derived.Test.YthjaepmfkgejkaaGreatDoorMerged6
import Derived.Test.YthjaepmfkgejkaaGreatDoorMerged7
import Derived.Deep.AppendSrc
import Derived.BigFrame
import Derived.Laws.OwnMore
import Derived.Test.YthjaepmfkgejkaaGreatDoorMerged19
import Derived.Test.YthjaepmfkgejkaaGreatDoorMerged17
set_option linter.unusedVariables false
set_option linter.unusedSimpArgs false
set_option maxHeartbeats 4000000
set_option maxRecDepth 100000
namespace Go.Proofs.YthjaepmfkgejkaaGreatDoor
open Lib (hid)
open Go.RowKit Go.Maps
def uE (s : ByteArray) : Nat := if zG s = true then zH s else 0
def vn (x : OpD) : Nat := if x.1 = 3 then 1 else if x.1 = 1 then uE x.2.2.2.1 else 0
def szL (l : List OpD) : Nat := (l.map vn).sum
theorem szL_next {l : List OpD} {i : Nat} (h : i < l.length) : szL (l.take (i + 1)) = szL (l.take i) + vn l[i] := by
  unfold szL
  rw [List.take_succ_eq_append_getElem h, List.map_append, List.sum_append]
  simp
theorem cntN_le (s : ByteArray) : uE s ≤ s.size := by
  unfold uE
  split
  · exact JJ s
  · exact Nat.zero_le _
theorem count_any (s : ByteArray) (w : World) (hs : s.size ≤ maxLen) :
    Calls Tryz.prog 44 #[.string s] w fun e w' => Below w.heap.size w w' ∧ ∃ er : Int, e = .returned (.tuple #[.int .i64 ((uE s : Nat) : Int), .int .i64 er]) := by
  rcases Bool.eq_false_or_eq_true (zG s) with ht | ht
  ·
   have HCK : Hid (∀ u : World, Calls Tryz.prog 82 #[.string s] u fun e w' => u = w' ∧ e = .returned (.tuple #[.int .i64 0, .int .i64 0])) := hid (fun u => (Zi s u hs).mono fun e w' ⟨h1, h2⟩ => by
     rcases h2 with ⟨_, h⟩ | ⟨h, _⟩
     · exact ⟨h1, h⟩
     · rw [ht] at h; cases h)
   have HCN : Hid (uE s = zH s) := hid (by unfold uE; rw [if_pos ht])
   have HOK0 := hid (show okFrom s 0 from ht)
   have hrn := JJ s
   have hmx : s.size ≤ 9223372036854775807 := by unfold maxLen at hs; omega
   obtain ⟨zi, hzi⟩ : ∃ zi, w.heap.size = zi := ⟨_, rfl⟩
   have HZI := hid hzi
   clear ht hzi
   go_enter Tryz.func44, Tryz.ntmps44
   go_upto_region 6 with (first
     | (go_at_call 82; refine (HCK.out _).mono ?_; rintro e u ⟨rfl, rfl⟩))
   go_loopw [6] (fun t6 wr => ∃ pos i : Nat, pos ≤ s.size ∧ t6 = .int .i64 (i : Int) ∧ Hid (wr.heap[zi]? = some (.stringIter s pos)) ∧ Hid (okFrom s pos) ∧ i + KQ s pos = zH s ∧ Hid (Below w.heap.size w wr)) (fun _ wr => s.size - wr.iterPos zi)
   case atStart =>
     exact ⟨0, 0, by omega, rfl, hid (by rw [← HZI.out]; simpa using World.iter_heap w s 0), HOK0, by rw [vh]; omega, hid ((qB _ _).alloc (qR _) _)⟩
   case round =>
     obtain ⟨pos, i, hpos, rfl, HIT, HOK, hcnt, HBR⟩ := hrel
     by_cases hlt : pos < s.size
     ·
      have hnx : ∀ ty, (Instr.next (.pointer (some ⟨w.heap.size, 0, none⟩)) true ty).run Tryz.prog wr = _ := fun ty => (congrArg (fun z => (Instr.next (.pointer (some ⟨z, 0, none⟩)) true ty).run Tryz.prog wr) HZI.out).trans (Lib.run_next_any_at wr zi s pos ty HIT.out hlt)
      have hin := JP hlt
      obtain ⟨ho, hnk⟩ := HOK.out.at_ hlt
      have hcn := vi hlt ho hnk
      have HOK2 := hid hnk
      have HIT2 := hid (Lib.iterAt_heap wr zi s pos (pos + (Utf8.decode s pos).2) HIT.out)
      have HBR2 := hid (Lib.below_iterAt HBR.out (by rw [HZI.out]; exact qR _) s (pos + (Utf8.decode s pos).2))
      clear ho hnk
      generalize hW2 : wr.iterAt zi s (pos + (Utf8.decode s pos).2) = W2 at *
      clear hW2
      go_wp2_with fail
      go_roundw
      case rel => exact ⟨pos + (Utf8.decode s pos).2, i + 1, by omega, by go_num, HIT2, HOK2, by omega, HBR2⟩
      case measure =>
        simp only [World.iterPos, HIT2.out, HIT.out]
        omega
     ·
      have hnx : ∀ ty, (Instr.next (.pointer (some ⟨w.heap.size, 0, none⟩)) true ty).run Tryz.prog wr = _ := fun ty => (congrArg (fun z => (Instr.next (.pointer (some ⟨z, 0, none⟩)) true ty).run Tryz.prog wr) HZI.out).trans (Lib.run_next_end_at wr zi s pos ty HIT.out hlt)
      have hi : i = zH s := by rw [vL (by omega)] at hcnt; omega
      have HI := hid hi
      clear hi hcnt
      go_wp2_with fail
      go_ret2
      exact ⟨HBR.out, 0, by rw [HCN.out, ← HI.out]; rfl⟩
  ·
   have HCK : Hid (∀ u : World, Calls Tryz.prog 82 #[.string s] u fun e w' => u = w' ∧ ∃ n : Int, e = .returned (.tuple #[.int .i64 n, .int .i64 5])) := hid (fun u => (Zi s u hs).mono fun e w' ⟨h1, h2⟩ => by
     rcases h2 with ⟨h, _⟩ | ⟨_, h⟩
     · rw [ht] at h; cases h
     · exact ⟨h1, h⟩)
   have HCN : Hid (uE s = 0) := hid (by unfold uE; rw [if_neg (by rw [ht]; decide)])
   clear ht
   go_enter Tryz.func44, Tryz.ntmps44
   go_wp2_with (first
     | (go_at_call 82; refine (HCK.out _).mono ?_; rintro e u ⟨rfl, n, rfl⟩))
   go_ret2
   exact ⟨qB _ _, 5, by rw [HCN.out]; rfl⟩
theorem QA (l : List OpD) (i : Nat) : szL (l.take i) ≤ szL l := by
  have h : szL l = szL (l.take i) + szL (l.drop i) := by
    unfold szL
    rw [← List.sum_append, ← List.map_append, List.take_append_drop]
  omega
theorem size_any (c : zL) (v : Value) (w : World) (h : ChIn w w.heap.size v c) (hl : c.2.2.2.length ≤ 1099511627776) (hz : szL c.2.2.2 ≤ 4611686018427387904) :
    Calls Tryz.prog 18 #[v] w fun e w' => Below w.heap.size w w' ∧ e = .returned (.int .i64 ((szL c.2.2.2 : Nat) : Int)) := by
  obtain ⟨ok, hop, ha, Ad, cd, Ao, co, rfl, sd, so⟩ := h
  obtain ⟨n, ds, au, os⟩ := c
  dsimp only at *
  have HSO := hid so; have HOP := hid hop
  clear ok hop ha sd so
  go_enter Tryz.func18, Tryz.ntmps18
  go_upto_region 1 with (first
    | (with_reducible refine kz ?_
       refine ko (by rfl) 26 _ rfl [.int .i64 n, .slice Ad ds.length cd, .string au, .slice Ao os.length co] _ rfl rfl (by kernel_rfl) ?_
       intro W0 hb0 hy0 hs0
       have HB0 := hid hb0; have HY0 := hid hy0
       clear hb0 hy0 hs0))
  have hx0 := (qX HY0.out)
  have c3 : W0.cell? ⟨w.heap.size, 3, none⟩ = some (.slice Ao os.length co) := k5 HY0.out 3
  try go_frame
  clear hx0 HY0
  go_wp2_with fail
  go_loopw [3, 11] (fun t3 t11 wr => ∃ i : Nat, i ≤ os.length ∧ t11 = .int .i64 (i : Int) ∧ t3 = .int .i64 ((szL (os.take i) : Nat) : Int) ∧ Hid (Below w.heap.size w wr)) (fun _ t _ => os.length - (intOf t).toNat)
  case atStart => exact ⟨0, Nat.zero_le _, rfl, rfl, HB0⟩
  case round =>
    obtain ⟨i, hi, rfl, rfl, HBR⟩ := hrel
    by_cases hlt : i < os.length
    ·
     obtain ⟨b, off, rfl, hbl, hcl⟩ := (HSO.out.keep HBR.out).2 (by omega)
     have i0 : (0 : Int) ≤ (i : Int) := by omega
     have i1 : (i : Int) < (os.length : Int) := by omega
     have HROW := hid (Sl.row (fun x hx => kq (HOP.out x hx)) hcl hlt)
     have HX := hid (HOP.out _ (List.getElem_mem hlt))
     have HNX := hid (szL_next hlt)
     have hle := QA os i
     have hle2 := QA os (i + 1)
     clear hcl hbl
     generalize os[i] = x at *
     generalize szL (os.take i) = q at *
     have HOC := hid (kn HX.out)
     by_cases hk : x.1 = 3
     ·
      have e3 : ((x.1.toNat : Int) == 3) = true := by rw [hk]; rfl
      have HZN : Hid (vn x = 1) := hid (by unfold vn; rw [if_pos hk])
      have hzn := HZN.out
      have hnx := HNX.out
      clear hk
      go_upto_region 5 with (first
        | (with_reducible refine k7 ?_
           refine zE rfl 70 _ rfl b _ rfl (opV x) _ HROW.out Tryz.underlying70 rfl (by rw [kq HX.out]; exact js) ?_)
        | (with_reducible refine kw ?_
           refine ku (by rfl) 70 rfl (opV zm) (zY _) ?_
           intro Wa hba hya hsa
           have HBa := hid hba; have HYa := hid hya; have HSa := hid hsa
           clear hba hya hsa)
        | (with_reducible refine ks ?_
           refine km (by rfl) 70 _ _ rfl wr.heap.size 0 [] (opV zm) [] (opV x) 70 _ rfl rfl rfl rfl (by simpa using HYa.out) (by rw [kq HX.out]; exact kq (KP 0)) (by rw [kq HX.out]; exact js) (Jo _) ?_
           intro Wb hbb hyb hsb
           have HBb := hid (HBa.out.trans (hbb.below (by have := HSa.out; omega) (fun k hk e => by omega)))
           have HYb : Hid (Wb.heap[wr.heap.size]? = some (.cells (opV x).toArray 70 (0, 0))) := hid (by simpa using hyb)
           clear hbb hyb hsb))
      have ck : Wb.cell? ⟨wr.heap.size, 0, none⟩ = some (.int .u8 (x.1.toNat : Int)) := (k5 HYb.out 0).trans rfl
      have ct : Wb.cell? ⟨wr.heap.size, 3 + 64, none⟩ = some (.string x.2.2.2.1) := (k5 HYb.out 67).trans HOC.out.2.2.2.1
      rw [hzn] at hnx
      clear hzn
      go_wp2_with fail
      go_roundw
      case rel => exact ⟨i + 1, by omega, by go_num, by rw [hnx]; go_num, hid (HBR.out.trans (HBb.out.mono HBR.out.size))⟩
      case measure => (simp [intOf]) <;> omega
     ·
      have hk3 := hk
      clear hk
      by_cases hk : x.1 = 1
      ·
       clear hk3
       have e3 : ((x.1.toNat : Int) == 3) = false := by rw [hk]; rfl
       have e1 : ((x.1.toNat : Int) == 1) = true := by rw [hk]; rfl
       have HZN : Hid (vn x = uE x.2.2.2.1) := hid (by unfold vn; rw [if_neg (by rw [hk]; decide), if_pos hk])
       have hzn := HZN.out
       have hnx := HNX.out
       clear hk
       go_upto_region 5 with (first
         | (with_reducible refine k7 ?_
            refine zE rfl 70 _ rfl b _ rfl (opV x) _ HROW.out Tryz.underlying70 rfl (by rw [kq HX.out]; exact js) ?_)
         | (with_reducible refine kw ?_
            refine ku (by rfl) 70 rfl (opV zm) (zY _) ?_
            intro Wa hba hya hsa
            have HBa := hid hba; have HYa := hid hya; have HSa := hid hsa
            clear hba hya hsa)
         | (with_reducible refine ks ?_
            refine km (by rfl) 70 _ _ rfl wr.heap.size 0 [] (opV zm) [] (opV x) 70 _ rfl rfl rfl rfl (by simpa using HYa.out) (by rw [kq HX.out]; exact kq (KP 0)) (by rw [kq HX.out]; exact js) (Jo _) ?_
            intro Wb hbb hyb hsb
            have HBb := hid (HBa.out.trans (hbb.below (by have := HSa.out; omega) (fun k hk e => by omega)))
            have HYb : Hid (Wb.heap[wr.heap.size]? = some (.cells (opV x).toArray 70 (0, 0))) := hid (by simpa using hyb)
            clear hbb hyb hsb))
       have ck : Wb.cell? ⟨wr.heap.size, 0, none⟩ = some (.int .u8 (x.1.toNat : Int)) := (k5 HYb.out 0).trans rfl
       have ct : Wb.cell? ⟨wr.heap.size, 3 + 64, none⟩ = some (.string x.2.2.2.1) := (k5 HYb.out 67).trans HOC.out.2.2.2.1
       rw [hzn] at hnx
       clear hzn
       go_wp2_with (first
         | (go_at_call 44; refine (count_any x.2.2.2.1 Wb HX.out.2.1).mono ?_; rintro e W9 ⟨hb9, er, rfl⟩
            have HB9 := hid hb9
            clear hb9))
       go_roundw
       case rel => exact ⟨i + 1, by omega, by go_num, by rw [hnx]; go_num, hid (HBR.out.trans ((HBb.out.trans (HB9.out.mono HBb.out.size)).mono HBR.out.size))⟩
       case measure => (simp [intOf]) <;> omega
      ·
       have hk1 := hk
       clear hk
       have e3 : ((x.1.toNat : Int) == 3) = false := by rw [beq_eq_false_iff_ne]; intro h; exact hk3 (by apply UInt8.toNat_inj.1; show x.1.toNat = 3; omega)
       have e1 : ((x.1.toNat : Int) == 1) = false := by rw [beq_eq_false_iff_ne]; intro h; exact hk1 (by apply UInt8.toNat_inj.1; show x.1.toNat = 1; omega)
       have HZN : Hid (vn x = 0) := hid (by unfold vn; rw [if_neg hk3, if_neg hk1])
       have hzn := HZN.out
       have hnx := HNX.out
       clear hk3 hk1
       go_upto_region 5 with (first
         | (with_reducible refine k7 ?_
            refine zE rfl 70 _ rfl b _ rfl (opV x) _ HROW.out Tryz.underlying70 rfl (by rw [kq HX.out]; exact js) ?_)
         | (with_reducible refine kw ?_
            refine ku (by rfl) 70 rfl (opV zm) (zY _) ?_
            intro Wa hba hya hsa
            have HBa := hid hba; have HYa := hid hya; have HSa := hid hsa
            clear hba hya hsa)
         | (with_reducible refine ks ?_
            refine km (by rfl) 70 _ _ rfl wr.heap.size 0 [] (opV zm) [] (opV x) 70 _ rfl rfl rfl rfl (by simpa using HYa.out) (by rw [kq HX.out]; exact kq (KP 0)) (by rw [kq HX.out]; exact js) (Jo _) ?_
            intro Wb hbb hyb hsb
            have HBb := hid (HBa.out.trans (hbb.below (by have := HSa.out; omega) (fun k hk e => by omega)))
            have HYb : Hid (Wb.heap[wr.heap.size]? = some (.cells (opV x).toArray 70 (0, 0))) := hid (by simpa using hyb)
            clear hbb hyb hsb))
       have ck : Wb.cell? ⟨wr.heap.size, 0, none⟩ = some (.int .u8 (x.1.toNat : Int)) := (k5 HYb.out 0).trans rfl
       have ct : Wb.cell? ⟨wr.heap.size, 3 + 64, none⟩ = some (.string x.2.2.2.1) := (k5 HYb.out 67).trans HOC.out.2.2.2.1
       rw [hzn] at hnx
       clear hzn
       go_wp2_with fail
       go_roundw
       case rel => exact ⟨i + 1, by omega, by go_num, by rw [hnx]; go_num, hid (HBR.out.trans (HBb.out.mono HBR.out.size))⟩
       case measure => (simp [intOf]) <;> omega
    ·
     have i1 : ¬ (i : Int) < (os.length : Int) := by omega
     have hie : os.take i = os := List.take_of_length_le (by omega)
     rw [hie]
     go_wp2_with fail
     go_ret
     exact ⟨HBR.out, rfl⟩
end Go.Proofs.YthjaepmfkgejkaaGreatDoor
namespace Go.Proofs.YthjaepmfkgejkaaGreatDoor
open Go.RowKit
theorem wp_appSc {P : Program} {ops : Array Oper} {rest : List Oper} {o : Oper} {a : Act} {Q : Exit → Act → World → Prop} {w : World} (hw : Region.wanted o (yielded ops a.tmps) = true) (s x : Operand) (t : TypeId)
    (ho : o.op = .call { callee := .builtin .append, args := #[s, x], argTypes := #[t, t] })
    (e : TypeId) (z : Value) (sz bytes : Nat) (ht : P.underlying t = some (.slice e)) (hinf : (P.info? e).map (fun i => (i.zero, i.size, i.bytes)) = some (some z, sz, bytes))
    (hz1 : z.cells.size = sz) (hsz : 0 < sz) (hs : a.eval s = .slice (some ⟨w.heap.size, 0, none⟩) 0 0)
    (A : Option Addr) (n c : Nat) (xs : List Value) (hx : a.eval x = .slice A n c) (hsl : Sl w w.heap.size A n sz xs) (h1 : ∀ u ∈ xs, u.oneCell' = true)
    (hn : n ≤ maxLen) (hb : n * bytes ≤ 140737488355328)
    (h : ∀ A' c' w', Sl w' w'.heap.size A' n sz xs → n ≤ c' → Below w.heap.size w w' → wpList P ops Q rest (a.put o.dst (.slice A' n c')) w') :
    wpList P ops Q (o :: rest) a (w.alloc (.cells #[] e)) := by
  obtain ⟨i0, hi, hz0, hz2, hz3⟩ := info_parts hinf
  have run : ∃ A' c' w', (Builtin.append_ #[t, t] o.type #[.slice (some ⟨w.heap.size, 0, none⟩) 0 0, .slice A n c]).run P (w.alloc (.cells #[] e)) = .ok (.slice A' n c') w' ∧ Sl w' w'.heap.size A' n sz xs ∧ n ≤ c' ∧ Below w.heap.size w w' := by
    have hba : Below w.heap.size w (w.alloc (.cells #[] e)) := (Below.refl _ _).alloc (Nat.le_refl _) _
    rcases Nat.eq_zero_or_pos n with h0 | h0
    ·
     subst h0
     obtain rfl : xs = [] := by
       have := hsl.1
       rw [Nat.zero_mul] at this
       exact List.length_eq_zero_iff.1 this
     have hS : Src P i0.size t (.slice A 0 c) 0 [] (w.alloc (.cells #[] e)) := by
       cases A with
       | none => exact Src.ofNil _ ht c
       | some ad => exact Src.ofSlice _ ht ad 0 c [] (by simp) (by simp) (by simp)
     refine ⟨_, _, _, run_append_room_src _ t t o.type e i0 ht hi w.heap.size 0 0 0 _ 0 [] hS (by omega) (by simp) (by simp), Sl.nil, Nat.zero_le _, ?_⟩
     exact hba
    ·
     obtain ⟨b, off, rfl, hlt, hc⟩ := hsl.2 h0
     have hown : (w.alloc (.cells #[] e)).ownsRow w.heap.size e sz (.slice (some ⟨w.heap.size, 0, none⟩) 0 0) 0 [] := World.ownsRow_lit w #[] 0 (Nat.le_refl _) (by simp) (by simp)
     obtain ⟨v', w', hr, hown', hgr, _⟩ := run_append_own (P := P) _ w.heap.size t o.type e i0 z sz bytes ht hi hz0 hz2 hz3 hz1 hsz _ 0 [] hown ⟨b, off, none⟩ n c xs hsl.1 (by
         intro j u hj
         have hcell := hc j u hj
         have e1 : (⟨b, off, none⟩ : Addr).add j = ⟨b, off + j, none⟩ := by unfold Addr.add; split <;> simp_all
         rw [e1]
         exact (hba.cell (p := ⟨b, off + j, none⟩) hlt).trans hcell) h1 (by omega) (by simpa using hb) (by simp)
     rw [Nat.zero_add, List.nil_append] at hown'
     obtain ⟨g, cap, rfl, hcp⟩ : ∃ g cap, v' = .slice g n cap ∧ n ≤ cap := by
       rcases hown'.2 with ⟨_, hn0⟩ | ⟨g, cap, cur, hv, _, _, hle, _⟩
       · omega
       · exact ⟨_, _, hv, hle⟩
     refine ⟨_, _, _, hr, Sl.of_own hown', hcp, hba.grown hgr (by simp) fun k hk => ?_⟩
     simp [Value.ownBlock] at hk
     omega
  obtain ⟨A', c', w', hr, hsl', hcp, hbw⟩ := run
  refine BigFrame.wpList_want hw fun K hK => ?_
  unfold Oper.wp execOp
  simp only [ho, resolve, invoke, builtin, Sem.run_bind, Sem.run_pure, Result.andThen_ok, List.map_toArray, List.map_cons, List.map_nil, hs, hx, hr]
  exact hK _ _ (h A' c' w' hsl' hcp hbw)
end Go.Proofs.YthjaepmfkgejkaaGreatDoor
namespace Go.Proofs.YthjaepmfkgejkaaGreatDoor
open Go.RowKit
theorem wp_appO {P : Program} {ops : Array Oper} {rest : List Oper} {o : Oper} {a : Act} {Q : Exit → Act → World → Prop} {w : World} (hw : Region.wanted o (yielded ops a.tmps) = true) (s x : Operand) (t : TypeId)
    (ho : o.op = .call { callee := .builtin .append, args := #[s, x], argTypes := #[t, t] })
    (e : TypeId) (z : Value) (sz bytes : Nat) (ht : P.underlying t = some (.slice e)) (hinf : (P.info? e).map (fun i => (i.zero, i.size, i.bytes)) = some (some z, sz, bytes))
    (hz1 : z.cells.size = sz) (hsz : 0 < sz) (hs : a.eval s = .slice (some ⟨w.heap.size, 0, none⟩) 0 0)
    (A : Option Addr) (n c : Nat) (xs : List Value) (hx : a.eval x = .slice A n c) (hsl : Sl w w.heap.size A n sz xs) (h1 : ∀ u ∈ xs, u.oneCell' = true)
    (h0 : 0 < n) (hn : n ≤ maxLen) (hb : n * bytes ≤ 140737488355328)
    (h : ∀ g c' w', w'.ownsRow w.heap.size e sz (.slice (some ⟨g, 0, none⟩) n c') n xs → n ≤ c' → w.heap.size ≤ g → g < w'.heap.size → Below w.heap.size w w' → wpList P ops Q rest (a.put o.dst (.slice (some ⟨g, 0, none⟩) n c')) w') :
    wpList P ops Q (o :: rest) a (w.alloc (.cells #[] e)) := by
  obtain ⟨i0, hi, hz0, hz2, hz3⟩ := info_parts hinf
  have hba : Below w.heap.size w (w.alloc (.cells #[] e)) := (qB _ _).alloc (qR _) _
  obtain ⟨b, off, rfl, hlt, hc⟩ := hsl.2 h0
  have hown : (w.alloc (.cells #[] e)).ownsRow w.heap.size e sz (.slice (some ⟨w.heap.size, 0, none⟩) 0 0) 0 [] := World.ownsRow_lit w #[] 0 (qR _) (by simp) (by simp)
  obtain ⟨v', w', hr, hown', hgr, _⟩ := run_append_own (P := P) _ w.heap.size t o.type e i0 z sz bytes ht hi hz0 hz2 hz3 hz1 hsz _ 0 [] hown ⟨b, off, none⟩ n c xs hsl.1 (by
      intro j u hj
      have hcell := hc j u hj
      have e1 : (⟨b, off, none⟩ : Addr).add j = ⟨b, off + j, none⟩ := by unfold Addr.add; split <;> simp_all
      rw [e1]
      exact (hba.cell (p := ⟨b, off + j, none⟩) hlt).trans hcell) h1 (by omega) (by simpa using hb) (by simp)
  rw [qZ, List.nil_append] at hown'
  obtain ⟨g, cap, rfl, hcp, hbg, hgl⟩ : ∃ g cap, v' = .slice (some ⟨g, 0, none⟩) n cap ∧ n ≤ cap ∧ w.heap.size ≤ g ∧ g < w'.heap.size := by
    rcases hown'.2 with ⟨_, hn0⟩ | ⟨g, cap, cur, hv, hbg, hg, hle, _⟩
    · omega
    · exact ⟨_, _, hv, hle, hbg, (qX hg)⟩
  refine BigFrame.wpList_want hw fun K hK => ?_
  unfold Oper.wp execOp
  simp only [ho, resolve, invoke, builtin, Sem.run_bind, Sem.run_pure, Result.andThen_ok, List.map_toArray, List.map_cons, List.map_nil, hs, hx, hr]
  refine hK _ _ (h g cap w' hown' hcp hbg hgl (hba.grown hgr (by simp) fun k hk => ?_))
  simp [Value.ownBlock] at hk
  omega
end Go.Proofs.YthjaepmfkgejkaaGreatDoor
namespace Go.Proofs.YthjaepmfkgejkaaGreatDoor
open Lib (hid)
open Go.RowKit Go.Maps
def cmA : zV := ([], [], ⟨#[65, 110, 110]⟩, ⟨#[109]⟩, 5)
def oA : zR := (2, jq, cmA)
def bA : List UInt8 := [75, 0, 0, 3, 65, 110, 110, 1, 109, 5]
def bB : List UInt8 := [67, 1, 0, 3, 65, 110, 110, 2, 3, 1, 97, 1, 0, 0, 0, 0, 2, 104, 105]
theorem rightA : kD oA = true := by decide +kernel
theorem bytesA : zA oA = bA := by decide +kernel
theorem readB : ∃ o, Kr bB = (o, 0) ∧ o.2.1.2.2.2.length = 2 ∧ (o.2.1.2.2.2.map fun x => x.2.2.2.1)[1]? = some ⟨#[104, 105]⟩ ∧ szL o.2.1.2.2.2 = 3 :=
  ⟨(Kr bB).1, Prod.ext rfl (show (Kr bB).2 = 0 by decide +kernel), by decide +kernel, by decide +kernel, by decide +kernel⟩
theorem readA : Kr (bA ++ [0]) = ((0, jq, ju), 6) := by
  refine uV (by decide) ?_
  have h : (zk (bA ++ [0])).isNone = true := by decide +kernel
  exact Option.isNone_iff_eq_none.1 h
theorem conv_bytes {w : World} {B c : Nat} {A : Option Addr} {l : List UInt8} (h : Sl w B A l.length 1 (idV l)) (hp : 0 < l.length) : (convert 22 9 (.slice A l.length c)).run Tryz.prog w = .ok (.string ⟨l.toArray⟩) w := by
  obtain ⟨b, off, rfl, _, hc⟩ := h.2 hp
  have hb : Lib.Bytes w b off ⟨l.toArray⟩ := ut fun j hj => hc j _ (by unfold idV; rw [List.getElem?_map, List.getElem?_eq_getElem hj]; rfl)
  have hw := Lib.run_convert_window (P := Tryz.prog) w 22 5 9 Tryz.underlying22 Tryz.underlying5 Tryz.underlying9 b off ⟨l.toArray⟩ hb 0 l.length c (by rw [Qw]; omega)
  rw [ZA, List.drop_zero, List.take_length, Nat.add_zero] at hw
  exact hw
theorem oA_in (w : World) (B : Nat) : ObjIn w B (.agg ([.int .u8 2, .int .i64 0, .slice none 0 0, .string kc, .slice none 0 0, .slice none 0 0, .slice none 0 0, .string ⟨#[65, 110, 110]⟩, .string ⟨#[109]⟩, .int .i64 5] : List Value).toArray) oA := by
  refine ⟨⟨⟨(by decide : (Lit.int .i64 0).wf = true), ?_, ?_⟩, ?_, ?_, (by decide : (Lit.int .i64 5).wf = true)⟩, ?_, ?_, ?_, ?_, none, 0, none, 0, none, 0, none, 0, rfl, Sl.nil, Sl.nil, Sl.nil, Sl.nil⟩
  · intro x hx; cases hx
  · intro x hx; cases hx
  · intro x hx; cases hx
  · intro x hx; cases hx
  · intro x hx; cases hx
  · show (0 : Nat) ≤ maxLen
    unfold maxLen; omega
  · show (3 : Nat) ≤ maxLen
    unfold maxLen; omega
  · show (1 : Nat) ≤ maxLen
    unfold maxLen; omega
theorem encA (w : World) (hg : Glob w) : Calls Tryz.prog 11 #[.agg ([.int .u8 2, .int .i64 0, .slice none 0 0, .string kc, .slice none 0 0, .slice none 0 0, .slice none 0 0, .string ⟨#[65, 110, 110]⟩, .string ⟨#[109]⟩, .int .i64 5] : List Value).toArray] w fun e w' => Below w.heap.size w w' ∧ ∃ A c, e = .returned (.tuple #[.slice A 10 c, .int .i64 0]) ∧ Sl w' w'.heap.size A 10 1 (idV bA) ∧ 10 ≤ c :=
  (KB oA _ w (oA_in w _) (by decide) (by decide) (by decide) (by decide) hg).mono fun e w' ⟨h1, h2⟩ => by
    unfold Ka at h2
    rw [if_pos rightA, bytesA, if_neg (by decide)] at h2
    exact ⟨h1, h2⟩
theorem decB (w : World) (g : Nat) {o : zR} (ho : Kr bB = (o, 0)) (hh : w.heap[g]? = some (.cells #[.int .u8 67, .int .u8 1, .int .u8 0, .int .u8 3, .int .u8 65, .int .u8 110, .int .u8 110, .int .u8 2, .int .u8 3, .int .u8 1, .int .u8 97, .int .u8 1, .int .u8 0, .int .u8 0, .int .u8 0, .int .u8 0, .int .u8 2, .int .u8 104, .int .u8 105] 5)) (hg : Glob w) : Calls Tryz.prog 5 #[.slice (some ⟨g, 0, none⟩) 19 19] w fun e w' => Below w.heap.size w w' ∧ ∃ v, e = .returned (.tuple #[v, .int .i64 0]) ∧ ObjIn w' w'.heap.size v o :=
  (vM bB (some ⟨g, 0, none⟩) 19 w ⟨by decide, fun _ => ⟨g, 0, rfl, (qX hh), fun j u hj => by
    rw [qZ]
    exact (k5 (cs := [.int .u8 67, .int .u8 1, .int .u8 0, .int .u8 3, .int .u8 65, .int .u8 110, .int .u8 110, .int .u8 2, .int .u8 3, .int .u8 1, .int .u8 97, .int .u8 1, .int .u8 0, .int .u8 0, .int .u8 0, .int .u8 0, .int .u8 2, .int .u8 104, .int .u8 105]) hh j).trans (by rw [← hj]; rfl)⟩⟩ (by decide) (by decide) hg).mono fun e w' ⟨h1, v, h2, h3⟩ => by
      rw [ho] at h2 h3
      exact ⟨h1, v, h2, h3⟩
theorem decA (w : World) (A : Option Addr) (c : Nat) (hs : Sl w w.heap.size A 11 1 (idV bA ++ [.int .u8 0])) (hc : 11 ≤ c) (hg : Glob w) : Calls Tryz.prog 5 #[.slice A 11 c] w fun e w' => Below w.heap.size w w' ∧ ∃ v, e = .returned (.tuple #[v, .int .i64 6]) ∧ ObjIn w' w'.heap.size v (0, jq, ju) := by
  have h11 : (bA ++ [0]).length = 11 := rfl
  have h := vM (bA ++ [0]) A c w (show Sl w w.heap.size A (bA ++ [0]).length 1 (idV (bA ++ [0])) from hs) (show (bA ++ [0]).length ≤ c from hc) (by decide) hg
  rw [h11] at h
  exact h.mono fun e w' ⟨h1, v, h2, h3⟩ => by
      rw [readA] at h2 h3
      exact ⟨h1, v, h2, h3⟩
theorem awake08_any (w : World) (hg : Glob w) : Calls Tryz.prog 9 #[] w fun e w' => Below w.heap.size w w' ∧ e = .returned (.bool true) := by
  have HG := hid hg
  obtain ⟨oB, ho, hB2, hB3, hB4⟩ := readB
  obtain ⟨k, ⟨n, ds, au, os⟩, ⟨ps, cs, a2, ms, st⟩⟩ := oB
  dsimp only at hB2 hB3 hB4
  have HL2 := hid hB2; have HL3 := hid hB3; have HL4 := hid hB4
  clear hB2 hB3 hB4
  have HENC := hid encA
  clear hg
  go_enter Tryz.func9, Tryz.ntmps9
  go_upto_region 2 with (first
    | (go_at_call 11; refine (HENC.out w HG.out).mono ?_; rintro e w1 ⟨hb1, A1, c1, rfl, hs1, hc1⟩))
  go_upto_region 3 with (first
    | (go_at_call 5; refine (decB (w1.alloc (.cells #[.int .u8 67, .int .u8 1, .int .u8 0, .int .u8 3, .int .u8 65, .int .u8 110, .int .u8 110, .int .u8 2, .int .u8 3, .int .u8 1, .int .u8 97, .int .u8 1, .int .u8 0, .int .u8 0, .int .u8 0, .int .u8 0, .int .u8 2, .int .u8 104, .int .u8 105] 5)) w1.heap.size ho (heap_alloc_new _ _) (HG.out.next (hb1.trans (((qB _ _).alloc (qR _) _).mono hb1.size)))).mono ?_; rintro e w2 ⟨hb2, v, rfl, hin⟩
       go_loud (have HB2 := hid (hb1.trans ((((qB w1.heap.size w1).alloc (qR _) (.cells #[.int .u8 67, .int .u8 1, .int .u8 0, .int .u8 3, .int .u8 65, .int .u8 110, .int .u8 110, .int .u8 2, .int .u8 3, .int .u8 1, .int .u8 97, .int .u8 1, .int .u8 0, .int .u8 0, .int .u8 0, .int .u8 0, .int .u8 2, .int .u8 104, .int .u8 105] 5)).trans (hb2.mono (by simp))).mono hb1.size)); obtain ⟨ok, hop, ha, ha2, hm, Ad, cd, Ao, co, Ap, cp, Ac, cc, rfl, sd, so, sp, sc⟩ := hin; try dsimp only at ok hop ha ha2 hm sd so sp sc; have HCH := hid (show ChIn w2 w2.heap.size (.agg ([.int .i64 n, .slice Ad ds.length cd, .string au, .slice Ao os.length co] : List Value).toArray) (n, ds, au, os) from ⟨ok.1, hop, ha, Ad, cd, Ao, co, rfl, sd, so⟩); have HSO := hid so; have HOP := hid hop; have HS1 := hid ((hs1.keep (((qB w1.heap.size w1).alloc (qR _) (.cells #[.int .u8 67, .int .u8 1, .int .u8 0, .int .u8 3, .int .u8 65, .int .u8 110, .int .u8 110, .int .u8 2, .int .u8 3, .int .u8 1, .int .u8 97, .int .u8 1, .int .u8 0, .int .u8 0, .int .u8 0, .int .u8 0, .int .u8 2, .int .u8 104, .int .u8 105] 5)).trans (hb2.mono (by simp)))).more (show w1.heap.size ≤ w2.heap.size from qT (by simp) hb2.size))); clear hb2 ok hop ha ha2 hm sd so sp sc)
    | (with_reducible refine kw ?_
       refine ku (by rfl) 30 rfl objZ (Kn _) ?_
       intro X1 hbx1 hzx1 hsx1
       have HBX1 := hid hbx1; have HZX1 := hid hzx1
       clear hbx1 hzx1 hsx1)
    | (with_reducible refine ks ?_
       refine km (by rfl) 30 _ _ rfl w2.heap.size 0 [] objZ [] [.int .u8 (k.toNat : Int), .int .i64 n, .slice Ad ds.length cd, .string au, .slice Ao os.length co, .slice Ap ps.length cp, .slice Ac cs.length cc, .string a2, .string ms, .int .i64 st] 30 (.agg ([.int .u8 (k.toNat : Int), .int .i64 n, .slice Ad ds.length cd, .string au, .slice Ao os.length co, .slice Ap ps.length cp, .slice Ac cs.length cc, .string a2, .string ms, .int .i64 st]).toArray) rfl rfl rfl rfl (by simpa using HZX1.out) rfl (by kernel_rfl) (by intro u hu; simp only [List.mem_cons, List.not_mem_nil, or_false] at hu; rcases hu with rfl | rfl | rfl | rfl | rfl | rfl | rfl | rfl | rfl | rfl <;> rfl) ?_
       intro Y1 hby1 hyy1 hsy1
       have HBY1 := hid (HBX1.out.trans (hby1.below HBX1.out.size (fun k hk e => by have e' : k = w2.heap.size := e; omega)))
       have HYY1 : Hid (Y1.heap[w2.heap.size]? = some (.cells ([.int .u8 (k.toNat : Int), .int .i64 n, .slice Ad ds.length cd, .string au, .slice Ao os.length co, .slice Ap ps.length cp, .slice Ac cs.length cc, .string a2, .string ms, .int .i64 st]).toArray 30 (0, 0))) := hid (by simpa using hyy1)
       clear hby1 hyy1 hsy1))
  have hb3 := HB2.out.trans (HBY1.out.mono HB2.out.size)
  have HB3 := hid hb3
  have HS3 := hid ((HS1.out.keep HBY1.out).more HBY1.out.size)
  have HG4 := hid (fun (u : World) (hu : Below Y1.heap.size Y1 u) => HG.out.next (HB3.out.trans (hu.mono HB3.out.size)))
  have HZL1 := hid (qX HYY1.out)
  clear hb3
  go_upto_region 4 with (first
    | (at_builtin; refine wp_appO (by rfl) _ _ 22 rfl 5 (.int .u8 0) 1 1 Tryz.underlying22 kH rfl (by decide) rfl A1 10 c1 (idV bA) rfl HS3.out (ky _) (by decide) (by unfold maxLen; omega) (by omega) ?_
       intro ga ca W3 hoa hca hga hla hba
       have HOA := hid hoa; have HBA := hid hba
       clear hoa hca hba)
    | (at_builtin; refine Ko rfl _ _ 22 rfl Y1.heap.size 5 (.int .u8 0) 1 Tryz.underlying22 kH rfl (.slice (some ⟨ga, 0, none⟩) 10 ca) 10 (idV bA) rfl HOA.out (.int .u8 0) 5 rfl rfl (by unfold maxLen; omega) (by omega) HBA.out.size ?_
       intro v9 W4 ho9 hgr9
       obtain ⟨A9, c9, rfl⟩ := kg ho9
       have HO9 := hid ho9
       have HB9 := hid (hgr9 _ _ (qR _) HBA.out)
       clear ho9 hgr9 HOA HBA)
    | (go_at_call 5; refine (decA W4 A9 c9 (Sl.of_own HO9.out) (Qz HO9.out) (HG4.out W4 HB9.out)).mono ?_; rintro e w8 ⟨hb8, v8, rfl, hin8⟩
       have HB8 := hid (HB9.out.trans (hb8.mono HB9.out.size))
       obtain ⟨l8, rfl, hl8, h18⟩ := hin8.ten
       clear hb8 hin8)
    | (with_reducible refine kw ?_
       refine ku (by rfl) 30 rfl objZ (Kn _) ?_
       intro X2 hbx2 hzx2 hsx2
       have HBX2 := hid hbx2; have HZX2 := hid hzx2
       clear hbx2 hzx2 hsx2)
    | (with_reducible refine ks ?_
       refine km (by rfl) 30 _ _ rfl w8.heap.size 0 [] objZ [] l8 30 (.agg (l8).toArray) rfl rfl rfl rfl (by simpa using HZX2.out) hl8.symm (by rw [hl8]; kernel_rfl) h18 ?_
       intro Y2 hby2 hyy2 hsy2
       have HBY2 := hid (HBX2.out.trans (hby2.below HBX2.out.size (fun k hk e => by have e' : k = w8.heap.size := e; omega)))
       have HYY2 : Hid (Y2.heap[w8.heap.size]? = some (.cells (l8).toArray 30 (0, 0))) := hid (by simpa using hyy2)
       clear hby2 hyy2 hsy2))
  have HBZ := hid (HB8.out.trans (HBY2.out.mono HB8.out.size))
  have HY2 := hid (HB3.out.trans (HBZ.out.mono HB3.out.size))
  have HBQ := hid (HBY1.out.trans (HBZ.out.mono HBY1.out.size))
  have hcv : (convert 22 9 (.slice A1 10 c1)).run Tryz.prog Y2 = .ok (.string ⟨#[75, 0, 0, 3, 65, 110, 110, 1, 109, 5]⟩) Y2 := conv_bytes (l := bA) (HS3.out.keep HBZ.out) (by decide)
  have hl2 := HL2.out; have hl4 := HL4.out
  obtain ⟨b, off, rfl, hbl, hcl⟩ := (HSO.out.keep HBQ.out).2 (by omega)
  have h1o : 1 < os.length := by omega
  have hrow := Sl.row (fun x hx => kq (HOP.out x hx)) hcl h1o
  have hx1 : os[1].2.2.2.1 = ⟨#[104, 105]⟩ := by
    have h := HL3.out
    rw [List.getElem?_map, List.getElem?_eq_getElem h1o] at h
    exact Option.some.inj h
  have e67 : Y2.cell? ⟨b, off + 70 + (3 + 64), none⟩ = some (.string ⟨#[104, 105]⟩) := by
    have h := hrow 67 _ (kn (HOP.out _ (List.getElem_mem h1o))).2.2.2.1
    rw [hx1] at h
    exact h
  have c4 : Y2.cell? ⟨w2.heap.size, 4, none⟩ = some (.slice (some ⟨b, off, none⟩) os.length co) := (HBZ.out.cell HZL1.out).trans (k5 HYY1.out 4)
  have i1 : (1 : Int) < (os.length : Int) := by omega
  have e2 : ((os.length : Int) == 2) = true := by rw [hl2]; rfl
  have e3 : (((szL os : Nat) : Int) == 3) = true := by rw [hl4]; rfl
  have HSZO := hid (show os.length ≤ 1099511627776 by omega)
  clear hx1 hrow hcl hbl h1o hl2 HL3
  have HSZL := hid (show szL os ≤ 4611686018427387904 by omega)
  clear hl4
  go_wp2_with (first
    | (with_reducible refine k7 ?_
       refine k6 (by rfl) (k9 26 _ rfl (p := ⟨w2.heap.size, 1, none⟩) rfl (qV _ _ _ _ [.int .i64 n, .slice Ad ds.length cd, .string au, .slice (some ⟨b, off, none⟩) os.length co] _ (fun j u hj => (HBZ.out.cell (p := ⟨w2.heap.size, 1 + j, none⟩) HZL1.out).trans ((k5 HYY1.out (1 + j)).trans (vV hj))) Tryz.underlying26 rfl (by kernel_rfl))) ?_)
    | (go_at_call 18; refine (size_any (n, ds, au, os) _ Y2 ((HCH.out.keep HBQ.out).more HBQ.out.size) HSZO.out HSZL.out).mono ?_; rintro e w10 ⟨hb10, rfl⟩
       have HB10 := hid hb10
       clear hb10))
  go_ret
  exact ⟨HY2.out.trans (HB10.out.mono HY2.out.size), rfl⟩
end Go.Proofs.YthjaepmfkgejkaaGreatDoor
