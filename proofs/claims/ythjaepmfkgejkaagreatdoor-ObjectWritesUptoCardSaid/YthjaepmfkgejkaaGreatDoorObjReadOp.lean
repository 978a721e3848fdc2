/-
  What the reader's op reads. Conditions: bytes that lie in memory; few changes hung on.
-/
import Derived.Test.YthjaepmfkgejkaaGreatDoorMerged1
import Derived.Test.YthjaepmfkgejkaaGreatDoorMerged4
import Derived.Test.YthjaepmfkgejkaaGreatDoorMerged13
import Derived.Test.YthjaepmfkgejkaaGreatDoorObjReader3
set_option linter.unusedVariables false
set_option linter.unusedSimpArgs false
set_option maxHeartbeats 4000000
set_option maxRecDepth 100000
namespace Go.Proofs.YthjaepmfkgejkaaGreatDoor
open Lib (hid)
open Go.RowKit Go.Maps
def zm : OpD := (0, kd, kd, kc, 0, kc)
def jd (p : Jy) : List Value := [.bool p.1, .bool p.2.1, .bool p.2.2.1, .bool p.2.2.2.1, .bool p.2.2.2.2]
def st5 (p : Jy) (k : UInt8) (d a : jQ) (t : ByteArray) (n : Int) : Ps OpD := kP (pIf p.2.2.2.2 kc jS) fun q => uQ (k, d, a, t, n, q)
def st4 (p : Jy) (k : UInt8) (d a : jQ) (t : ByteArray) : Ps OpD := kP (pIf p.2.2.2.1 0 ZL) fun n => st5 p k d a t n
def st3 (p : Jy) (k : UInt8) (d a : jQ) : Ps OpD := kP (pIf p.2.2.1 kc jS) fun t => st4 p k d a t
def st2 (deps : List (List UInt8)) (p : Jy) (k : UInt8) (d : jQ) : Ps OpD := kP (pIf p.2.1 kd (ZS deps)) fun a => st3 p k d a
def st1 (deps : List (List UInt8)) (p : Jy) (k : UInt8) : Ps OpD := kP (pIf p.1 kd (ZS deps)) fun d => st2 deps p k d
theorem pOp_st {deps : List (List UInt8)} {l r : List UInt8} {k : UInt8} {p : Jy} (h : Z3 l = some (k, r)) (hp : kj k = some p) : pOp deps l = st1 deps p k r := by
  unfold pOp
  rw [kF h, hp]
  rfl
theorem pOp_kind {deps : List (List UInt8)} {l r : List UInt8} {k : UInt8} (h : Z3 l = some (k, r)) (hp : kj k = none) : pOp deps l = none := by
  unfold pOp
  rw [kF h, hp]
theorem pOp_byte {deps : List (List UInt8)} {l : List UInt8} (h : Z3 l = none) : pOp deps l = none := by
  unfold pOp kP
  rw [h]
theorem ve {α β : Type} {b : Bool} {z : α} {d : Ps α} {f : α → Ps β} {l : List UInt8} (h : b = false) : kP (pIf b z d) f l = f z l := by subst h; rfl
theorem vf {α β : Type} {b : Bool} {z a : α} {d : Ps α} {f : α → Ps β} {l r : List UInt8} (h : b = true) (hd : d l = some (a, r)) : kP (pIf b z d) f l = f a r := by subst h; exact kF hd
theorem vg {α β : Type} {b : Bool} {z : α} {d : Ps α} {f : α → Ps β} {l : List UInt8} (h : b = true) (hd : d l = none) : kP (pIf b z d) f l = none := by subst h; show kP d f l = none; unfold kP; rw [hd]
theorem op_cut2 (k : UInt8) (d a : jQ) (t : ByteArray) (n : Int) (q : ByteArray) : opV (k, d, a, t, n, q) = (.int .u8 (k.toNat : Int) :: ke d) ++ (ke a ++ [.string t, .int .i64 n, .string q]) := by simp [opV]
theorem op_cut3 (k : UInt8) (d a : jQ) (t : ByteArray) (n : Int) (q : ByteArray) : opV (k, d, a, t, n, q) = (.int .u8 (k.toNat : Int) :: (ke d ++ ke a)) ++ ([.string t] ++ [.int .i64 n, .string q]) := by simp [opV]
theorem op_cut4 (k : UInt8) (d a : jQ) (t : ByteArray) (n : Int) (q : ByteArray) : opV (k, d, a, t, n, q) = (.int .u8 (k.toNat : Int) :: (ke d ++ (ke a ++ [.string t]))) ++ ([.int .i64 n] ++ [.string q]) := by simp [opV]
theorem op_cut5 (k : UInt8) (d a : jQ) (t : ByteArray) (n : Int) (q : ByteArray) : opV (k, d, a, t, n, q) = (.int .u8 (k.toNat : Int) :: (ke d ++ (ke a ++ [.string t, .int .i64 n]))) ++ ([.string q] ++ []) := by simp [opV]
theorem zY (w : World) : (zeroValue 70).run Tryz.prog w = .ok (.agg (opV zm).toArray) w := by kernel_rfl
theorem opK_built (k : UInt8) (w : World) : (Instr.build 70 #[(0, .int .u8 (k.toNat : Int))]).run Tryz.prog w = .ok (.agg (opV (k, kd, kd, kc, 0, kc)).toArray) w := by kernel_rfl
theorem js : (Tryz.prog.info? 70).map (·.size) = some 70 := by kernel_rfl
theorem je : (Tryz.prog.info? 117).map (·.size) = some 5 := by kernel_rfl
theorem Jg (w : World) : (zeroValue 117).run Tryz.prog w = .ok (.agg (jd kZ).toArray) w := by kernel_rfl
theorem KP (k : UInt8) : Je (k, kd, kd, kc, 0, kc) := ⟨⟨kp, kp, (by decide : (Lit.int .i64 0).wf = true)⟩, (show (0 : Nat) ≤ maxLen by unfold maxLen; omega), (show (0 : Nat) ≤ maxLen by unfold maxLen; omega)⟩
structure OpSt (w : World) (g b off c : Nat) (l : List UInt8) (z0 zx zp : Nat) (p : Jy) (x : OpD) (a : Nat) (wx : World) : Prop where
  rd : RdAt wx g b off c l a
  but : But (fun k => k = g) w wx
  res : wx.heap[z0]? = some (.cells (opV zm).toArray 70 (0, 0))
  box : wx.heap[zx]? = some (.cells (opV x).toArray 70 (0, 0))
  part : wx.heap[zp]? = some (.cells (jd p).toArray 117 (0, 0))
  ok : Je x
structure OpZ (w : World) (g z0 zx zp : Nat) : Prop where
  low : g < w.heap.size
  h0 : w.heap.size ≤ z0
  hx : w.heap.size ≤ zx
  hp : w.heap.size ≤ zp
  nx0 : zx ≠ z0
  nxp : zx ≠ zp
  np0 : zp ≠ z0
section
variable {w wx wy : World} {g b off c : Nat} {l : List UInt8} {z0 zx zp : Nat} {p : Jy} {x y : OpD} {a a2 : Nat}
theorem OpSt.read (h : OpSt w g b off c l z0 zx zp p x a wx) (hz : OpZ w g z0 zx zp) (hr : RdAt wy g b off c l a2) (hb : But (fun k => k = g) wx wy) : OpSt w g b off c l z0 zx zp p x a2 wy := by
  have l0 := (qX h.res)
  have lx := (qX h.box)
  have lp := (qX h.part)
  have h1 := hz.low; have h2 := hz.h0; have h3 := hz.hx; have h4 := hz.hp
  exact ⟨hr, h.but.trans hb fun _ _ q => q, (hb.block z0 l0 (by omega)).trans h.res, (hb.block zx lx (by omega)).trans h.box, (hb.block zp lp (by omega)).trans h.part, h.ok⟩
theorem OpSt.store (h : OpSt w g b off c l z0 zx zp p x a wx) (hz : OpZ w g z0 zx zp) (hb : But (fun k => k = zx) wx wy) (hy : wy.heap[zx]? = some (.cells (opV y).toArray 70 (0, 0))) (hok : Je y) : OpSt w g b off c l z0 zx zp p y a wy := by
  have l0 := (qX h.res)
  have lp := (qX h.part)
  have h1 := hz.low; have h3 := hz.hx; have h5 := hz.nx0; have h6 := hz.nxp
  exact ⟨h.rd.but hb fun k hk e => by omega, h.but.trans hb fun i hi e => by omega, (hb.block z0 l0 (by omega)).trans h.res, hy, (hb.block zp lp (by omega)).trans h.part, hok⟩
end
theorem rop_any (g b off c : Nat) (l : List UInt8) (at' : Nat) (w : World) (hr : RdAt w g b off c l at') (hl : l.length ≤ 1099511627776) (deps : List (List UInt8)) (Ad : Option Addr) (cd : Nat) (hdl : deps.length ≤ 1099511627776) (ho : IdsOk deps) (hd : w.ownsRow (g + 1) 47 32 (.slice Ad deps.length cd) deps.length (kr deps)) :
    Calls Tryz.prog 56 #[.pointer (some ⟨g, 0, none⟩), .slice Ad deps.length cd] w (RdGives g b off c l at' w (pOp deps) (fun x v _ => v = .agg (opV x).toArray ∧ Je x)) := by
  have HRD := hid hr; have HDO := hid ho; have HD := hid hd
  clear hr ho hd
  rcases hpb : Z3 (l.drop at') with _ | ⟨k, r1⟩
  ·
   have HPB := hid hpb
   clear hpb
   go_enter Tryz.func56, Tryz.ntmps56
   go_wp2_with (first
     | (with_reducible refine kw ?_
        refine ku (by rfl) 70 rfl (opV zm) (zY _) ?_
        intro W0 hb0 hz0 hs0
        have HZ0 := hid hz0; have HS0 := hid hs0
        have HB0 := hid (But.of_below (X := fun k => k = g) hb0)
        have HRD0 := hid (HRD.out.keep hb0)
        clear hb0 hz0 hs0)
     | (go_at_call 50; refine (JI g b off c l at' W0 HRD0.out hl).mono ?_; rintro e w1 hgv
        obtain ⟨rfl, hbt⟩ := hgv.bad HPB.out))
   exact ⟨rfl, RdGives.no (pOp_byte HPB.out) rfl (HB0.out.trans hbt fun _ _ q => q)⟩
  ·
   have HPB := hid hpb
   clear hpb
   go_enter Tryz.func56, Tryz.ntmps56
   go_upto_region 2 with (first
     | (with_reducible refine kw ?_
        refine ku (by rfl) 70 rfl (opV zm) (zY _) ?_
        intro W0 hb0 hz0 hs0
        have HZ0 := hid hz0; have HS0 := hid hs0
        have HB0 := hid (But.of_below (X := fun k => k = g) hb0)
        have HRD0 := hid (HRD.out.keep hb0)
        clear hb0 hz0 hs0)
     | (go_at_call 50; refine (JI g b off c l at' W0 HRD0.out hl).mono ?_; rintro e w1 hgv
        obtain ⟨v, at1, rfl, hle1, hr1, hrd1, hbt1, rfl⟩ := hgv.ok HPB.out
        have HRD1 := hid hrd1; have HB1 := hid hbt1; have HLE1 := hid hle1; have HR1 := hid hr1
        clear hgv hrd1 hbt1 hle1 hr1)
     | (with_reducible refine kQ ?_
        refine k6 (by rfl) (kB 70 _ rfl (opK_built k _)) ?_)
     | (with_reducible refine kw ?_
        refine ku (by rfl) 70 rfl (opV zm) (zY _) ?_
        intro W2 hb2 hz2 hs2
        have HB2 := hid hb2; have HZ2 := hid hz2; have HS2 := hid hs2
        clear hb2 hz2 hs2)
     | (with_reducible refine ks ?_
        refine km (by rfl) 70 _ _ rfl w1.heap.size 0 [] (opV zm) [] (opV (k, kd, kd, kc, 0, kc)) 70 _ rfl rfl rfl rfl (by simpa using HZ2.out) rfl (by kernel_rfl) (Jo _) ?_
        intro W3 hb3 hy3 hs3
        have HB3 := hid hb3; have HS3 := hid hs3
        have HY3 : Hid (W3.heap[w1.heap.size]? = some (.cells (opV (k, kd, kd, kc, 0, kc)).toArray 70 (0, 0))) := hid (by simpa using hy3)
        clear hb3 hy3 hs3
        go_frame))
   have hg0 := HRD.out.lt
   obtain ⟨z0, hz0⟩ : ∃ z0, w.heap.size = z0 := ⟨_, rfl⟩
   obtain ⟨zx, hzx⟩ : ∃ zx, w1.heap.size = zx := ⟨_, rfl⟩
   have s1 := HB1.out.size
   have s2 := HB2.out.size
   rw [hz0] at HZ0
   rw [hzx] at HZ2 HY3
   have hs0' := HS0.out; have hs2' := HS2.out; have hs3' := HS3.out
   have HRD3 : Hid (RdAt W3 g b off c l at1) := hid ((HRD1.out.keep HB2.out).but HB3.out fun k' hk' e => by omega)
   have HBW3 : Hid (But (fun k => k = g) w W3) := hid (((HB0.out.trans HB1.out fun _ _ q => q).andBelow HB2.out).trans HB3.out fun j hj e => by omega)
   have HR3 : Hid (W3.heap[z0]? = some (.cells (opV zm).toArray 70 (0, 0))) := hid ((HB3.out.block z0 (by omega) (by omega)).trans ((HB2.out.block z0 (by omega)).trans ((HB1.out.block z0 (by omega) (by omega)).trans HZ0.out)))
   have hx3 : zx < W3.heap.size := by omega
   have h03 : z0 < W3.heap.size := by omega
   have hxz : zx ≠ z0 := by omega
   have hwx : w.heap.size ≤ zx := by omega
   have hwz : w.heap.size ≤ z0 := by omega
   have hw3 : w.heap.size ≤ W3.heap.size := by omega
   rw [hzx]
   try rw [hz0]
   have HFK := hid (fun (u : World) (hu : Below W3.heap.size W3 u) => (show u.cell? ⟨zx, 0, none⟩ = some (.int .u8 (k.toNat : Int)) from (hu.cell (p := ⟨zx, 0, none⟩) hx3).trans (k5 HY3.out 0)))
   have HBD := hid (show Below W3.heap.size W3 W3.drew from (qD _ _))
   have HPM : Hid ((ja k).getD (zq kZ) = (zq ((kj k).getD kZ))) := hid (by unfold ja; cases kj k <;> rfl)
   clear hz0 hzx s1 s2 hs0' hs2' hs3' HB0 HB1 HB2 HB3 HS0 HS2 HS3 HZ0 HZ2 HRD0 HRD1
   have hE1 := enE Tryz.func69 rfl
   go_cut [6, 7] from 8 to 17 (fun t6 t7 wx => ∃ zp, t6 = .pointer (some ⟨zp, 0, none⟩) ∧ t7 = .bool (ja k).isSome ∧ W3.heap.size ≤ zp ∧ Hid (Below W3.heap.size W3 wx) ∧ Hid (wx.heap[zp]? = some (.cells (jd ((kj k).getD kZ)).toArray 117 (0, 0))))
   case first =>
     refine rN 8 (fun u => u.cell? ⟨zx, 0, none⟩ = some (.int .u8 (k.toNat : Int))) (HFK.out _ HBD.out) fun hF0 => ?_
     refine tw 1 (.pointer (some ⟨zx, 0, none⟩)) ?_
     go_frame
     refine tl 2 (.int .u8 (k.toNat : Int)) rfl hF0 (fun w' hw' => l1 Tryz.underlying5 hw') ?_
     go_frame
     refine Kh (rs := [0, 7]) (by kernel_rfl) (by simp) ?_
     intro q' hq'
     simp only [List.mem_cons, List.not_mem_nil, or_false] at hq'
     rcases hq' with rfl | rfl
     ·
      refine JF _ rfl (by kernel_rfl) (J6 (f := 69) (args := #[]) rfl rfl (fun args w => hE1 w args) (by simp)) ?_
      refine (Zq (W3.drew)).mono ?_
      rintro e v1 ⟨hb1, v, rfl, ⟨mg, mn, rfl, hmv1⟩, -⟩
      have hbv1 : Below W3.heap.size W3 v1 := (HBD.out).trans (hb1.mono (HBD.out).size)
      refine ⟨_, rfl, fun _ _ => HFK.out _ hbv1, ?_⟩
      go_frame
      refine Kh (rs := [3, 7]) (by kernel_rfl) (by simp) ?_
      intro q' hq'
      simp only [List.mem_cons, List.not_mem_nil, or_false] at hq'
      rcases hq' with rfl | rfl
      focus
        refine jv _ rfl (by kernel_rfl) (Ja 114 _ _ rfl (vm := .map (some mg)) (vk := u8K k) rfl rfl (MapV.look2 ZM Tryz.underlying114 (fun u => JT u) hmv1 (k0 := k) trivial)) ?_
        rw [HPM.out]
        refine ⟨fun _ h => h, ?_⟩
        go_frame
        refine tw 4 (.tuple #[(zq ((kj k).getD kZ)), .bool (ja k).isSome]) ?_
        go_frame
        refine tw 5 (zq ((kj k).getD kZ)) ?_
        go_frame
        refine tw 6 (.bool (ja k).isSome) ?_
        go_frame
        refine ta 7 ?_
        refine KO _ rfl (by kernel_rfl) 117 rfl (jd kZ) (Jg _) ?_
        intro va hba0 hzc hsa
        have hba : Below W3.heap.size W3 va := (hbv1).trans (hba0.mono (hbv1).size)
        have hzw : W3.heap.size ≤ (v1).heap.size := (hbv1).size
        have hzl : (v1).heap.size < va.heap.size := by omega
        have hma := hmv1.below hba0
        refine ⟨fun _ _ => HFK.out _ hba, ?_⟩
      rotate_left
      focus
        refine KO _ rfl (by kernel_rfl) 117 rfl (jd kZ) (Jg _) ?_
        intro va hba0 hzc hsa
        have hba : Below W3.heap.size W3 va := (hbv1).trans (hba0.mono (hbv1).size)
        have hzw : W3.heap.size ≤ (v1).heap.size := (hbv1).size
        have hzl : (v1).heap.size < va.heap.size := by omega
        have hma := hmv1.below hba0
        refine ⟨fun _ _ => HFK.out _ hba, ?_⟩
        go_frame
        refine ta 3 ?_
        refine jv _ rfl (by kernel_rfl) (Ja 114 _ _ rfl (vm := .map (some mg)) (vk := u8K k) rfl rfl (MapV.look2 ZM Tryz.underlying114 (fun u => JT u) hma (k0 := k) trivial)) ?_
        rw [HPM.out]
        refine ⟨fun _ h => h, ?_⟩
        go_frame
        refine tw 4 (.tuple #[(zq ((kj k).getD kZ)), .bool (ja k).isSome]) ?_
        go_frame
        refine tw 5 (zq ((kj k).getD kZ)) ?_
        go_frame
        refine tw 6 (.bool (ja k).isSome) ?_
      all_goals
        go_frame
        refine ta 8 ?_
        refine zf _ rfl (by kernel_rfl) 117 _ _ rfl ((v1).heap.size) 0 [] (jd kZ) [] (jd ((kj k).getD kZ)) 117 (zq ((kj k).getD kZ)) rfl rfl rfl rfl (by simpa using hzc) rfl (by kernel_rfl) (by intro u hu; simp only [jd, List.mem_cons, List.not_mem_nil, or_false] at hu; rcases hu with rfl | rfl | rfl | rfl | rfl <;> rfl) ?_
        intro vs hbw hzz hss
        have hbz : Below W3.heap.size W3 vs := (hba).trans (hbw.below (hba).size (fun k hk => by omega))
        have hz7 : W3.heap.size ≤ (v1).heap.size := hzw
        refine ⟨fun h => absurd h (by decide), ?_⟩
        go_frame
        refine tw 9 (.bool (ja k).isSome) ?_
        go_frame
        refine kv (by kernel_rfl) ?_ _
        go_wp2_with fail
        go_meet
        case rel => exact ⟨(v1).heap.size, rfl, rfl, hz7, hid hbz, hid (by simpa using hzz)⟩
     ·
      refine KO _ rfl (by kernel_rfl) 117 rfl (jd kZ) (Jg _) ?_
      intro va hba0 hzc hsa
      have hba : Below W3.heap.size W3 va := (HBD.out).trans (hba0.mono (HBD.out).size)
      have hzw : W3.heap.size ≤ (W3.drew).heap.size := (HBD.out).size
      have hzl : (W3.drew).heap.size < va.heap.size := by omega
      refine ⟨fun _ _ => HFK.out _ hba, ?_⟩
      go_frame
      refine ta 0 ?_
      refine JF _ rfl (by kernel_rfl) (J6 (f := 69) (args := #[]) rfl rfl (fun args w => hE1 w args) (by simp)) ?_
      refine (Zq (va)).mono ?_
      rintro e v1 ⟨hb1, v, rfl, ⟨mg, mn, rfl, hmv1⟩, -⟩
      have hbv1 : Below W3.heap.size W3 v1 := (hba).trans (hb1.mono (hba).size)
      have hzv := (hb1.block _ (qX hzc)).trans hzc
      refine ⟨_, rfl, fun _ _ => HFK.out _ hbv1, ?_⟩
      go_frame
      refine ta 3 ?_
      refine jv _ rfl (by kernel_rfl) (Ja 114 _ _ rfl (vm := .map (some mg)) (vk := u8K k) rfl rfl (MapV.look2 ZM Tryz.underlying114 (fun u => JT u) hmv1 (k0 := k) trivial)) ?_
      rw [HPM.out]
      refine ⟨fun _ h => h, ?_⟩
      go_frame
      refine tw 4 (.tuple #[(zq ((kj k).getD kZ)), .bool (ja k).isSome]) ?_
      go_frame
      refine tw 5 (zq ((kj k).getD kZ)) ?_
      go_frame
      refine tw 6 (.bool (ja k).isSome) ?_
      go_frame
      refine ta 8 ?_
      refine zf _ rfl (by kernel_rfl) 117 _ _ rfl ((W3.drew).heap.size) 0 [] (jd kZ) [] (jd ((kj k).getD kZ)) 117 (zq ((kj k).getD kZ)) rfl rfl rfl rfl (by simpa using hzv) rfl (by kernel_rfl) (by intro u hu; simp only [jd, List.mem_cons, List.not_mem_nil, or_false] at hu; rcases hu with rfl | rfl | rfl | rfl | rfl <;> rfl) ?_
      intro vs hbw hzz hss
      have hbz : Below W3.heap.size W3 vs := (hbv1).trans (hbw.below (hbv1).size (fun k hk => by omega))
      have hz7 : W3.heap.size ≤ (W3.drew).heap.size := hzw
      refine ⟨fun h => absurd h (by decide), ?_⟩
      go_frame
      refine tw 9 (.bool (ja k).isSome) ?_
      go_frame
      refine kv (by kernel_rfl) ?_ _
      go_wp2_with fail
      go_meet
      case rel => exact ⟨(W3.drew).heap.size, rfl, rfl, hz7, hid hbz, hid (by simpa using hzz)⟩
   case rest =>
     obtain ⟨zp, rfl, rfl, hzp, HBC, HZP⟩ := hcut
     obtain ⟨wq0, hwq⟩ : ∃ u : World, u = wc := ⟨_, rfl⟩
     subst hwq
     have HZ : Hid (OpZ w g z0 zx zp) := hid ⟨hg0, hwz, hwx, by omega, hxz, by omega, by omega⟩
     rcases hpk : kj k with _ | p
     ·
      have HPK := hid hpk
      have dk : (ja k).isSome = false := by unfold ja; rw [HPK.out]; rfl
      go_wp2_with (first
        | (go_at_call 57; refine (Ks _).mono ?_; rintro e w5 ⟨rfl, rfl⟩))
      exact ⟨rfl, RdGives.no (pOp_kind HPB.out HPK.out) rfl (HBW3.out.andBelow HBC.out)⟩
     ·
      have HPK := hid hpk
      have dk : (ja k).isSome = true := by unfold ja; rw [HPK.out]; rfl
      have HST0 : Hid (OpSt w g b off c l z0 zx zp p (k, kd, kd, kc, 0, kc) at1 wq0) := hid ⟨HRD3.out.keep HBC.out, HBW3.out.andBelow HBC.out, (HBC.out.block z0 h03).trans HR3.out, (HBC.out.block zx hx3).trans HY3.out, by rw [HZP.out, HPK.out]; rfl, KP k⟩
      have HEQ0 : Hid (pOp deps (l.drop at') = st1 deps p k (l.drop at1)) := hid ((pOp_st HPB.out HPK.out).trans (by rw [HR1.out]))
      have HLA0 := HLE1
      go_upto_region 4 with (first
        | (go_at_call 57; refine (K5 _).mono ?_; rintro e w5 ⟨rfl, rfl⟩))
      have cp : w5.cell? ⟨zp, 0, none⟩ = some (.bool p.1) := k5 HST0.out.part 0
      go_upto_if 21 with fail
      have HO := hid HST0.out.ok
      go_cut [21] from 22 to 25 (fun _ wx => ∃ (d : jQ) (a9 : Nat), Hid (at1 ≤ a9) ∧ Hid (OpSt w g b off c l z0 zx zp p (k, d, kd, kc, 0, kc) a9 wx) ∧ Hid (pOp deps (l.drop at') = st2 deps p k d (l.drop a9)))
      case first =>
        cases hpb : p.1
        · go_wp2_with fail
          go_meet
          case rel => exact ⟨kd, at1, hid (qR _), HST0, hid (HEQ0.out.trans (ve hpb))⟩
        ·
         rcases hpx : (ZS deps) (l.drop at1) with _ | ⟨d, rr⟩
         ·
          have HPX := hid hpx
          clear hpx
          go_wp2_with (first
            | (go_at_call 91; refine (uy g b off c l at1 w5 HST0.out.rd hl deps Ad cd hdl HDO.out (HST0.out.but.own HD.out fun k' hk' e => by have := (HD.out.lt k' hk').1; omega)).mono ?_; rintro e w8 hgv
               obtain ⟨rfl, hbt⟩ := hgv.bad HPX.out))
          exact ⟨rfl, RdGives.no (HEQ0.out.trans (vg hpb HPX.out)) rfl (HST0.out.but.trans hbt fun _ _ q => q)⟩
         ·
          have HPX := hid hpx
          clear hpx
          go_wp2_with (first
            | (go_at_call 91; refine (uy g b off c l at1 w5 HST0.out.rd hl deps Ad cd hdl HDO.out (HST0.out.but.own HD.out fun k' hk' e => by have := (HD.out.lt k' hk').1; omega)).mono ?_; rintro e w8 hgv
               obtain ⟨v', a9, rfl, hle, hr2, hrd2, hbt2, ⟨rfl, hrk⟩⟩ := hgv.ok HPX.out
               have HRK := hid hrk
               clear hrk
               have HLE2 := hid hle; have HR2 := hid hr2
               have HS8 := hid (HST0.out.read HZ.out hrd2 hbt2)
               clear hgv hrd2 hbt2 hle hr2)
            | (with_reducible refine ks ?_
               refine km (by rfl) 68 _ _ rfl zx 1 [.int .u8 (k.toNat : Int)] (ke kd) (ke kd ++ [.string kc, .int .i64 0, .string kc]) (ke d) 70 (.agg (ke d).toArray) rfl rfl rfl rfl (by rw [← show opV (k, kd, kd, kc, 0, kc) = [.int .u8 (k.toNat : Int)] ++ ((ke kd) ++ (ke kd ++ [.string kc, .int .i64 0, .string kc])) from rfl]; exact HS8.out.box) (by rw [kf kp, kf HRK.out]) (by rw [kf HRK.out]; exact kW) (Kz _) ?_
               intro W9 hb9 hy9 hs9
               rw [← show opV (k, d, kd, kc, 0, kc) = [.int .u8 (k.toNat : Int)] ++ ((ke d) ++ (ke kd ++ [.string kc, .int .i64 0, .string kc])) from rfl] at hy9
               have HS9 := hid (HS8.out.store HZ.out hb9 hy9 ⟨⟨HRK.out, HO.out.1.2.1, HO.out.1.2.2⟩, HO.out.2.1, HO.out.2.2⟩)
               clear hb9 hy9 hs9
               go_frame))
          go_meet
          case rel => exact ⟨d, a9, HLE2, HS9, hid (HEQ0.out.trans (vf hpb (HPX.out.trans (by rw [HR2.out]))))⟩
      case rest =>
        obtain ⟨d, a1, hla9, HST1, HEQ1⟩ := hcut
        obtain ⟨wq1, hwq⟩ : ∃ u : World, u = wc := ⟨_, rfl⟩
        subst hwq
        have HLA1 := hid (qT HLA0.out hla9.out)
        clear HST0 HEQ0 HLA0 hla9 HO cp
        have cp : wq1.cell? ⟨zp, 1, none⟩ = some (.bool p.2.1) := k5 HST1.out.part 1
        go_upto_if 27 with fail
        have HO := hid HST1.out.ok
        go_cut [27] from 28 to 31 (fun _ wx => ∃ (r : jQ) (a9 : Nat), Hid (a1 ≤ a9) ∧ Hid (OpSt w g b off c l z0 zx zp p (k, d, r, kc, 0, kc) a9 wx) ∧ Hid (pOp deps (l.drop at') = st3 p k d r (l.drop a9)))
        case first =>
          cases hpb : p.2.1
          · go_wp2_with fail
            go_meet
            case rel => exact ⟨kd, a1, hid (qR _), HST1, hid (HEQ1.out.trans (ve hpb))⟩
          ·
           rcases hpx : (ZS deps) (l.drop a1) with _ | ⟨r, rr⟩
           ·
            have HPX := hid hpx
            clear hpx
            go_wp2_with (first
              | (go_at_call 91; refine (uy g b off c l a1 wq1 HST1.out.rd hl deps Ad cd hdl HDO.out (HST1.out.but.own HD.out fun k' hk' e => by have := (HD.out.lt k' hk').1; omega)).mono ?_; rintro e w8 hgv
                 obtain ⟨rfl, hbt⟩ := hgv.bad HPX.out))
            exact ⟨rfl, RdGives.no (HEQ1.out.trans (vg hpb HPX.out)) rfl (HST1.out.but.trans hbt fun _ _ q => q)⟩
           ·
            have HPX := hid hpx
            clear hpx
            go_wp2_with (first
              | (go_at_call 91; refine (uy g b off c l a1 wq1 HST1.out.rd hl deps Ad cd hdl HDO.out (HST1.out.but.own HD.out fun k' hk' e => by have := (HD.out.lt k' hk').1; omega)).mono ?_; rintro e w8 hgv
                 obtain ⟨v', a9, rfl, hle, hr2, hrd2, hbt2, ⟨rfl, hrk⟩⟩ := hgv.ok HPX.out
                 have HRK := hid hrk
                 clear hrk
                 have HLE2 := hid hle; have HR2 := hid hr2
                 have HS8 := hid (HST1.out.read HZ.out hrd2 hbt2)
                 clear hgv hrd2 hbt2 hle hr2)
              | (with_reducible refine ks ?_
                 refine km (by rfl) 68 _ _ rfl zx 34 (.int .u8 (k.toNat : Int) :: ke d) (ke kd) [.string kc, .int .i64 0, .string kc] (ke r) 70 (.agg (ke r).toArray) rfl (by rw [List.length_cons, kf HO.out.1.1]) rfl rfl (by rw [← show opV (k, d, kd, kc, 0, kc) = (.int .u8 (k.toNat : Int) :: ke d) ++ ((ke kd) ++ [.string kc, .int .i64 0, .string kc]) from (op_cut2 _ _ _ _ _ _)]; exact HS8.out.box) (by rw [kf kp, kf HRK.out]) (by rw [kf HRK.out]; exact kW) (Kz _) ?_
                 intro W9 hb9 hy9 hs9
                 rw [← show opV (k, d, r, kc, 0, kc) = (.int .u8 (k.toNat : Int) :: ke d) ++ ((ke r) ++ [.string kc, .int .i64 0, .string kc]) from (op_cut2 _ _ _ _ _ _)] at hy9
                 have HS9 := hid (HS8.out.store HZ.out hb9 hy9 ⟨⟨HO.out.1.1, HRK.out, HO.out.1.2.2⟩, HO.out.2.1, HO.out.2.2⟩)
                 clear hb9 hy9 hs9
                 go_frame))
            go_meet
            case rel => exact ⟨r, a9, HLE2, HS9, hid (HEQ1.out.trans (vf hpb (HPX.out.trans (by rw [HR2.out]))))⟩
        case rest =>
          obtain ⟨r, a2, hla9, HST2, HEQ2⟩ := hcut
          obtain ⟨wq2, hwq⟩ : ∃ u : World, u = wc := ⟨_, rfl⟩
          subst hwq
          have HLA2 := hid (qT HLA1.out hla9.out)
          clear HST1 HEQ1 HLA1 hla9 HO cp
          have cp : wq2.cell? ⟨zp, 2, none⟩ = some (.bool p.2.2.1) := k5 HST2.out.part 2
          go_upto_if 33 with fail
          have HO := hid HST2.out.ok
          go_cut [33] from 34 to 36 (fun _ wx => ∃ (t : ByteArray) (a9 : Nat), Hid (a2 ≤ a9) ∧ Hid (OpSt w g b off c l z0 zx zp p (k, d, r, t, 0, kc) a9 wx) ∧ Hid (pOp deps (l.drop at') = st4 p k d r t (l.drop a9)))
          case first =>
            cases hpb : p.2.2.1
            · go_wp2_with fail
              go_meet
              case rel => exact ⟨kc, a2, hid (qR _), HST2, hid (HEQ2.out.trans (ve hpb))⟩
            ·
             rcases hpx : jS (l.drop a2) with _ | ⟨t, rr⟩
             ·
              have HPX := hid hpx
              clear hpx
              go_wp2_with (first
                | (go_at_call 53; refine (zu g b off c l a2 wq2 HST2.out.rd hl).mono ?_; rintro e w8 hgv
                   obtain ⟨rfl, hbt⟩ := hgv.bad HPX.out))
              exact ⟨rfl, RdGives.no (HEQ2.out.trans (vg hpb HPX.out)) rfl (HST2.out.but.trans hbt fun _ _ q => q)⟩
             ·
              have HPX := hid hpx
              clear hpx
              go_wp2_with (first
                | (go_at_call 53; refine (zu g b off c l a2 wq2 HST2.out.rd hl).mono ?_; rintro e w8 hgv
                   obtain ⟨v', a9, rfl, hle, hr2, hrd2, hbt2, rfl⟩ := hgv.ok HPX.out
                   have hrk : t.size ≤ maxLen := by have := (Js HPX.out).2; unfold maxLen; omega
                   have HRK := hid hrk
                   clear hrk
                   have HLE2 := hid hle; have HR2 := hid hr2
                   have HS8 := hid (HST2.out.read HZ.out hrd2 hbt2)
                   clear hgv hrd2 hbt2 hle hr2)
                | (with_reducible refine ks ?_
                   refine km (by rfl) 9 _ _ rfl zx 67 (.int .u8 (k.toNat : Int) :: (ke d ++ ke r)) [.string kc] [.int .i64 0, .string kc] [.string t] 70 (.string t) rfl (by rw [List.length_cons, List.length_append, kf HO.out.1.1, kf HO.out.1.2.1]) rfl rfl (by rw [← show opV (k, d, r, kc, 0, kc) = (.int .u8 (k.toNat : Int) :: (ke d ++ ke r)) ++ ([.string kc] ++ [.int .i64 0, .string kc]) from (op_cut3 _ _ _ _ _ _)]; exact HS8.out.box) rfl (by kernel_rfl) (by intro u hu; rw [List.mem_singleton.1 hu]; rfl) ?_
                   intro W9 hb9 hy9 hs9
                   rw [← show opV (k, d, r, t, 0, kc) = (.int .u8 (k.toNat : Int) :: (ke d ++ ke r)) ++ ([.string t] ++ [.int .i64 0, .string kc]) from (op_cut3 _ _ _ _ _ _)] at hy9
                   have HS9 := hid (HS8.out.store HZ.out hb9 hy9 ⟨⟨HO.out.1.1, HO.out.1.2.1, HO.out.1.2.2⟩, HRK.out, HO.out.2.2⟩)
                   clear hb9 hy9 hs9
                   go_frame))
              go_meet
              case rel => exact ⟨t, a9, HLE2, HS9, hid (HEQ2.out.trans (vf hpb (HPX.out.trans (by rw [HR2.out]))))⟩
          case rest =>
            obtain ⟨t, a3, hla9, HST3, HEQ3⟩ := hcut
            obtain ⟨wq3, hwq⟩ : ∃ u : World, u = wc := ⟨_, rfl⟩
            subst hwq
            have HLA3 := hid (qT HLA2.out hla9.out)
            clear HST2 HEQ2 HLA2 hla9 HO cp
            have cp : wq3.cell? ⟨zp, 3, none⟩ = some (.bool p.2.2.2.1) := k5 HST3.out.part 3
            go_upto_if 38 with fail
            have HO := hid HST3.out.ok
            go_cut [38] from 39 to 41 (fun _ wx => ∃ (n : Int) (a9 : Nat), Hid (a3 ≤ a9) ∧ Hid (OpSt w g b off c l z0 zx zp p (k, d, r, t, n, kc) a9 wx) ∧ Hid (pOp deps (l.drop at') = st5 p k d r t n (l.drop a9)))
            case first =>
              cases hpb : p.2.2.2.1
              · go_wp2_with fail
                go_meet
                case rel => exact ⟨0, a3, hid (qR _), HST3, hid (HEQ3.out.trans (ve hpb))⟩
              ·
               rcases hpx : Kj (l.drop a3) with _ | ⟨n0, rr⟩
               ·
                have HPN := hid hpx
                have HPX : Hid (ZL (l.drop a3) = none) := hid (by unfold ZL kP; rw [hpx])
                clear hpx
                go_wp2_with (first
                  | (go_at_call 51; refine (jC g b off c l a3 wq3 HST3.out.rd hl).mono ?_; rintro e w8 hgv
                     obtain ⟨rfl, hbt⟩ := hgv.bad HPN.out))
                exact ⟨rfl, RdGives.no (HEQ3.out.trans (vg hpb HPX.out)) rfl (HST3.out.but.trans hbt fun _ _ q => q)⟩
               ·
                have HPN := hid hpx
                have HPX : Hid (ZL (l.drop a3) = some ((n0 : Int), rr)) := hid (by unfold ZL; rw [kF hpx]; rfl)
                have HRK : Hid ((Lit.int .i64 (n0 : Int)).wf = true) := hid (by have := (JB hpx).2; simp only [Lit.wf, IntKind.min, IntKind.max, IntKind.signed, IntKind.bits, Bool.and_eq_true]; simp; omega)
                obtain ⟨n, hn⟩ : ∃ n : Int, (n0 : Int) = n := ⟨_, rfl⟩
                rw [hn] at HPX HRK
                clear hpx
                go_wp2_with (first
                  | (go_at_call 51; refine (jC g b off c l a3 wq3 HST3.out.rd hl).mono ?_; rintro e w8 hgv
                     obtain ⟨v', a9, rfl, hle, hr2, hrd2, hbt2, rfl⟩ := hgv.ok HPN.out
                     rw [hn]
                     have HLE2 := hid hle; have HR2 := hid hr2
                     have HS8 := hid (HST3.out.read HZ.out hrd2 hbt2)
                     clear hgv hrd2 hbt2 hle hr2)
                  | (with_reducible refine ks ?_
                     refine km (by rfl) 3 _ _ rfl zx 68 (.int .u8 (k.toNat : Int) :: (ke d ++ (ke r ++ [.string t]))) [.int .i64 0] [.string kc] [.int .i64 n] 70 (.int .i64 n) rfl (by rw [List.length_cons, List.length_append, List.length_append, kf HO.out.1.1, kf HO.out.1.2.1]; rfl) rfl rfl (by rw [← show opV (k, d, r, t, 0, kc) = (.int .u8 (k.toNat : Int) :: (ke d ++ (ke r ++ [.string t]))) ++ ([.int .i64 0] ++ [.string kc]) from (op_cut4 _ _ _ _ _ _)]; exact HS8.out.box) rfl (by kernel_rfl) (by intro u hu; rw [List.mem_singleton.1 hu]; rfl) ?_
                     intro W9 hb9 hy9 hs9
                     rw [← show opV (k, d, r, t, n, kc) = (.int .u8 (k.toNat : Int) :: (ke d ++ (ke r ++ [.string t]))) ++ ([.int .i64 n] ++ [.string kc]) from (op_cut4 _ _ _ _ _ _)] at hy9
                     have HS9 := hid (HS8.out.store HZ.out hb9 hy9 ⟨⟨HO.out.1.1, HO.out.1.2.1, HRK.out⟩, HO.out.2.1, HO.out.2.2⟩)
                     clear hb9 hy9 hs9
                     go_frame))
                go_meet
                case rel => exact ⟨n, a9, HLE2, HS9, hid (HEQ3.out.trans (vf hpb (HPX.out.trans (by rw [HR2.out]))))⟩
            case rest =>
              obtain ⟨n, a4, hla9, HST4, HEQ4⟩ := hcut
              obtain ⟨wq4, hwq⟩ : ∃ u : World, u = wc := ⟨_, rfl⟩
              subst hwq
              have HLA4 := hid (qT HLA3.out hla9.out)
              clear HST3 HEQ3 HLA3 hla9 HO cp
              have cp : wq4.cell? ⟨zp, 4, none⟩ = some (.bool p.2.2.2.2) := k5 HST4.out.part 4
              go_upto_if 43 with fail
              have HO := hid HST4.out.ok
              go_cut [43] from 44 to 46 (fun _ wx => ∃ (q : ByteArray) (a9 : Nat), Hid (a4 ≤ a9) ∧ Hid (OpSt w g b off c l z0 zx zp p (k, d, r, t, n, q) a9 wx) ∧ Hid (pOp deps (l.drop at') = some ((k, d, r, t, n, q), l.drop a9)))
              case first =>
                cases hpb : p.2.2.2.2
                · go_wp2_with fail
                  go_meet
                  case rel => exact ⟨kc, a4, hid (qR _), HST4, hid (HEQ4.out.trans ((ve hpb).trans rfl))⟩
                ·
                 rcases hpx : jS (l.drop a4) with _ | ⟨q, rr⟩
                 ·
                  have HPX := hid hpx
                  clear hpx
                  go_wp2_with (first
                    | (go_at_call 53; refine (zu g b off c l a4 wq4 HST4.out.rd hl).mono ?_; rintro e w8 hgv
                       obtain ⟨rfl, hbt⟩ := hgv.bad HPX.out))
                  exact ⟨rfl, RdGives.no (HEQ4.out.trans (vg hpb HPX.out)) rfl (HST4.out.but.trans hbt fun _ _ q => q)⟩
                 ·
                  have HPX := hid hpx
                  clear hpx
                  go_wp2_with (first
                    | (go_at_call 53; refine (zu g b off c l a4 wq4 HST4.out.rd hl).mono ?_; rintro e w8 hgv
                       obtain ⟨v', a9, rfl, hle, hr2, hrd2, hbt2, rfl⟩ := hgv.ok HPX.out
                       have hrk : q.size ≤ maxLen := by have := (Js HPX.out).2; unfold maxLen; omega
                       have HRK := hid hrk
                       clear hrk
                       have HLE2 := hid hle; have HR2 := hid hr2
                       have HS8 := hid (HST4.out.read HZ.out hrd2 hbt2)
                       clear hgv hrd2 hbt2 hle hr2)
                    | (with_reducible refine ks ?_
                       refine km (by rfl) 9 _ _ rfl zx 69 (.int .u8 (k.toNat : Int) :: (ke d ++ (ke r ++ [.string t, .int .i64 n]))) [.string kc] [] [.string q] 70 (.string q) rfl (by rw [List.length_cons, List.length_append, List.length_append, kf HO.out.1.1, kf HO.out.1.2.1]; rfl) rfl rfl (by rw [← show opV (k, d, r, t, n, kc) = (.int .u8 (k.toNat : Int) :: (ke d ++ (ke r ++ [.string t, .int .i64 n]))) ++ ([.string kc] ++ []) from (op_cut5 _ _ _ _ _ _)]; exact HS8.out.box) rfl (by kernel_rfl) (by intro u hu; rw [List.mem_singleton.1 hu]; rfl) ?_
                       intro W9 hb9 hy9 hs9
                       rw [← show opV (k, d, r, t, n, q) = (.int .u8 (k.toNat : Int) :: (ke d ++ (ke r ++ [.string t, .int .i64 n]))) ++ ([.string q] ++ []) from (op_cut5 _ _ _ _ _ _)] at hy9
                       have HS9 := hid (HS8.out.store HZ.out hb9 hy9 ⟨⟨HO.out.1.1, HO.out.1.2.1, HO.out.1.2.2⟩, HO.out.2.1, HRK.out⟩)
                       clear hb9 hy9 hs9
                       go_frame))
                  go_meet
                  case rel => exact ⟨q, a9, HLE2, HS9, hid (HEQ4.out.trans ((vf hpb (HPX.out.trans (by rw [HR2.out]))).trans rfl))⟩
              case rest =>
                obtain ⟨q, a5, hla9, HST5, HEQ5⟩ := hcut
                obtain ⟨wq5, hwq⟩ : ∃ u : World, u = wc := ⟨_, rfl⟩
                subst hwq
                have HLA5 := hid (qT HLA4.out hla9.out)
                clear HST4 HEQ4 HLA4 hla9 HO cp
                go_wp2_with (first
                  | (with_reducible refine k7 ?_
                     refine k6 (by rfl) (ldO (b := zx) (f := 0) (y := (k, d, r, t, n, q)) HST5.out.ok (fun j u hj => by rw [qZ]; exact (k5 HST5.out.box j).trans hj)) ?_)
                  | (with_reducible refine ks ?_
                     refine km (by rfl) 70 _ _ rfl z0 0 [] (opV zm) [] (opV (k, d, r, t, n, q)) 70 (.agg (opV (k, d, r, t, n, q)).toArray) rfl rfl rfl rfl (by simpa using HST5.out.res) (by rw [kq HST5.out.ok]; exact kq (KP 0)) (by rw [kq HST5.out.ok]; exact js) (Jo _) ?_
                     intro W9 hb9 hy9 hs9
                     have HB9 := hid hb9
                     have HY9 : Hid (W9.heap[z0]? = some (.cells (opV (k, d, r, t, n, q)).toArray 70 (0, 0))) := hid (by simpa using hy9)
                     clear hb9 hy9 hs9))
                refine bodyPost_end (jL Tryz.results56 _ _ rfl (qV _ z0 0 70 (opV (k, d, r, t, n, q)) _ (fun j u hj => by rw [qZ]; exact (k5 HY9.out j).trans hj) Tryz.underlying70 rfl (by rw [kq HST5.out.ok]; exact js))) rfl ?_
                exact RdGives.yes HEQ5.out rfl HLA5.out rfl (HST5.out.rd.but HB9.out fun k hk e => by have := HZ.out.low; have := HZ.out.h0; omega) (HST5.out.but.trans HB9.out fun i hi e => by have := HZ.out.h0; omega) ⟨rfl, HST5.out.ok⟩
end Go.Proofs.YthjaepmfkgejkaaGreatDoor
