/-
  What the reader's op reads. Conditions: bytes that lie in memory; few changes hung on.
-/
import Derived.Test.YthjaepmfkgejkaaGreatDoorMerged14
import Derived.Test.YthjaepmfkgejkaaGreatDoorObjReader3
set_option linter.unusedVariables false
set_option linter.unusedSimpArgs false
set_option maxHeartbeats 4000000
set_option maxRecDepth 100000
namespace Go.Proofs.YthjaepmfkgejkaaGreatDoor
open Lib (hid)
open Go.RowKit Go.Maps
def jd : OpD := (0, kc, kc, k7, 0, k7)
def jq (p : Jq) : List Value := [.bool p.1, .bool p.2.1, .bool p.2.2.1, .bool p.2.2.2.1, .bool p.2.2.2.2]
def st5 (p : Jq) (k : UInt8) (d a : za) (t : ByteArray) (n : Int) : Ps OpD := jb (pIf p.2.2.2.2 k7 jL) fun q => Jo (k, d, a, t, n, q)
def st4 (p : Jq) (k : UInt8) (d a : za) (t : ByteArray) : Ps OpD := jb (pIf p.2.2.2.1 0 Jk) fun n => st5 p k d a t n
def st3 (p : Jq) (k : UInt8) (d a : za) : Ps OpD := jb (pIf p.2.2.1 k7 jL) fun t => st4 p k d a t
def st2 (deps : List (List UInt8)) (p : Jq) (k : UInt8) (d : za) : Ps OpD := jb (pIf p.2.1 kc (JD deps)) fun a => st3 p k d a
def st1 (deps : List (List UInt8)) (p : Jq) (k : UInt8) : Ps OpD := jb (pIf p.1 kc (JD deps)) fun d => st2 deps p k d
theorem ub {deps : List (List UInt8)} {l r : List UInt8} {k : UInt8} {p : Jq} (h : zX l = some (k, r)) (hp : kq k = some p) : pOp deps l = st1 deps p k r := by
  unfold pOp
  rw [kz h, hp]
  rfl
theorem pOp_kind {deps : List (List UInt8)} {l r : List UInt8} {k : UInt8} (h : zX l = some (k, r)) (hp : kq k = none) : pOp deps l = none := by
  unfold pOp
  rw [kz h, hp]
theorem pOp_byte {deps : List (List UInt8)} {l : List UInt8} (h : zX l = none) : pOp deps l = none := by
  unfold pOp jb
  rw [h]
theorem ZF {α β : Type} {b : Bool} {z : α} {d : Ps α} {f : α → Ps β} {l : List UInt8} (h : b = false) : jb (pIf b z d) f l = f z l := by subst h; rfl
theorem ZG {α β : Type} {b : Bool} {z a : α} {d : Ps α} {f : α → Ps β} {l r : List UInt8} (h : b = true) (hd : d l = some (a, r)) : jb (pIf b z d) f l = f a r := by subst h; exact kz hd
theorem ZH {α β : Type} {b : Bool} {z : α} {d : Ps α} {f : α → Ps β} {l : List UInt8} (h : b = true) (hd : d l = none) : jb (pIf b z d) f l = none := by subst h; show jb d f l = none; unfold jb; rw [hd]
theorem ZW (k : UInt8) (d a : za) (t : ByteArray) (n : Int) (q : ByteArray) : opV (k, d, a, t, n, q) = (.int .u8 (k.toNat : Int) :: kf d) ++ (kf a ++ [.string t, .int .i64 n, .string q]) := by simp [opV]
theorem uF (k : UInt8) (d a : za) (t : ByteArray) (n : Int) (q : ByteArray) : opV (k, d, a, t, n, q) = (.int .u8 (k.toNat : Int) :: (kf d ++ kf a)) ++ ([.string t] ++ [.int .i64 n, .string q]) := by simp [opV]
theorem uG (k : UInt8) (d a : za) (t : ByteArray) (n : Int) (q : ByteArray) : opV (k, d, a, t, n, q) = (.int .u8 (k.toNat : Int) :: (kf d ++ (kf a ++ [.string t]))) ++ ([.int .i64 n] ++ [.string q]) := by simp [opV]
theorem ZX (k : UInt8) (d a : za) (t : ByteArray) (n : Int) (q : ByteArray) : opV (k, d, a, t, n, q) = (.int .u8 (k.toNat : Int) :: (kf d ++ (kf a ++ [.string t, .int .i64 n]))) ++ ([.string q] ++ []) := by simp [opV]
theorem zj (w : World) : (zeroValue 70).run Tryz.prog w = .ok (.agg (opV jd).toArray) w := by kernel_rfl
theorem opK_built (k : UInt8) (w : World) : (Instr.build 70 #[(0, .int .u8 (k.toNat : Int))]).run Tryz.prog w = .ok (.agg (opV (k, kc, kc, k7, 0, k7)).toArray) w := by kernel_rfl
theorem kw : (Tryz.prog.info? 70).map (·.size) = some 70 := by kernel_rfl
theorem jr : (Tryz.prog.info? 117).map (·.size) = some 5 := by kernel_rfl
theorem J3 (w : World) : (zeroValue 117).run Tryz.prog w = .ok (.agg (jq jl).toArray) w := by kernel_rfl
theorem jI (k : UInt8) : KW (k, kc, kc, k7, 0, k7) := ⟨⟨ku, ku, (by decide : (Lit.int .i64 0).wf = true)⟩, (show (0 : Nat) ≤ maxLen by unfold maxLen; omega), (show (0 : Nat) ≤ maxLen by unfold maxLen; omega)⟩
structure OpSt (w : World) (g b off c : Nat) (l : List UInt8) (z0 zx zp : Nat) (p : Jq) (x : OpD) (a : Nat) (wx : World) : Prop where
  rd : RdAt wx g b off c l a
  but : But (fun k => k = g) w wx
  res : wx.heap[z0]? = some (.cells (opV jd).toArray 70 (0, 0))
  box : wx.heap[zx]? = some (.cells (opV x).toArray 70 (0, 0))
  part : wx.heap[zp]? = some (.cells (jq p).toArray 117 (0, 0))
  ok : KW x
structure OpZ (w : World) (g z0 zx zp : Nat) : Prop where
  low : g < w.heap.size
  h0 : w.heap.size ≤ z0
  hx : w.heap.size ≤ zx
  hp : w.heap.size ≤ zp
  nx0 : zx ≠ z0
  nxp : zx ≠ zp
  np0 : zp ≠ z0
section
variable {w wx wy : World} {g b off c : Nat} {l : List UInt8} {z0 zx zp : Nat} {p : Jq} {x y : OpD} {a a2 : Nat}
theorem OpSt.read (h : OpSt w g b off c l z0 zx zp p x a wx) (hz : OpZ w g z0 zx zp) (hr : RdAt wy g b off c l a2) (hb : But (fun k => k = g) wx wy) : OpSt w g b off c l z0 zx zp p x a2 wy := by
  have l0 := (Array.getElem?_eq_some_iff.1 h.res).1
  have lx := (Array.getElem?_eq_some_iff.1 h.box).1
  have lp := (Array.getElem?_eq_some_iff.1 h.part).1
  have h1 := hz.low; have h2 := hz.h0; have h3 := hz.hx; have h4 := hz.hp
  exact ⟨hr, h.but.trans hb fun _ _ q => q, (hb.block z0 l0 (by omega)).trans h.res, (hb.block zx lx (by omega)).trans h.box, (hb.block zp lp (by omega)).trans h.part, h.ok⟩
theorem OpSt.store (h : OpSt w g b off c l z0 zx zp p x a wx) (hz : OpZ w g z0 zx zp) (hb : But (fun k => k = zx) wx wy) (hy : wy.heap[zx]? = some (.cells (opV y).toArray 70 (0, 0))) (hok : KW y) : OpSt w g b off c l z0 zx zp p y a wy := by
  have l0 := (Array.getElem?_eq_some_iff.1 h.res).1
  have lp := (Array.getElem?_eq_some_iff.1 h.part).1
  have h1 := hz.low; have h3 := hz.hx; have h5 := hz.nx0; have h6 := hz.nxp
  exact ⟨h.rd.but hb fun k hk e => by omega, h.but.trans hb fun i hi e => by omega, (hb.block z0 l0 (by omega)).trans h.res, hy, (hb.block zp lp (by omega)).trans h.part, hok⟩
end
theorem rop_any (g b off c : Nat) (l : List UInt8) (at' : Nat) (w : World) (hr : RdAt w g b off c l at') (hl : l.length ≤ 1099511627776) (deps : List (List UInt8)) (Ad : Option Addr) (cd : Nat) (hdl : deps.length ≤ 1099511627776) (ho : IdsOk deps) (hd : w.ownsRow (g + 1) 47 32 (.slice Ad deps.length cd) deps.length (jf deps)) :
    Calls Tryz.prog 56 #[.pointer (some ⟨g, 0, none⟩), .slice Ad deps.length cd] w (RdGives g b off c l at' w (pOp deps) (fun x v _ => v = .agg (opV x).toArray ∧ KW x)) := by
  have HRD := hid hr; have HDO := hid ho; have HD := hid hd
  clear hr ho hd
  rcases hpb : zX (l.drop at') with _ | ⟨k, r1⟩
  ·
   have HPB := hid hpb
   clear hpb
   go_enter Tryz.func56, Tryz.ntmps56
   go_wp2_with (first
     | (with_reducible refine kG ?_
        refine kE (by rfl) 70 rfl (opV jd) (zj _) ?_
        intro W0 hb0 hz0 hs0
        have HZ0 := hid hz0; have HS0 := hid hs0
        have HB0 := hid (But.of_below (X := fun k => k = g) hb0)
        have HRD0 := hid (HRD.out.keep hb0)
        clear hb0 hz0 hs0)
     | (go_at_call 50; refine (Ju g b off c l at' W0 HRD0.out hl).mono ?_; rintro e w1 hgv
        obtain ⟨rfl, hbt⟩ := hgv.bad HPB.out))
   exact ⟨rfl, RdGives.no (pOp_byte HPB.out) rfl (HB0.out.trans hbt fun _ _ q => q)⟩
  ·
   have HPB := hid hpb
   clear hpb
   go_enter Tryz.func56, Tryz.ntmps56
   go_upto_region 2 with (first
     | (with_reducible refine kG ?_
        refine kE (by rfl) 70 rfl (opV jd) (zj _) ?_
        intro W0 hb0 hz0 hs0
        have HZ0 := hid hz0; have HS0 := hid hs0
        have HB0 := hid (But.of_below (X := fun k => k = g) hb0)
        have HRD0 := hid (HRD.out.keep hb0)
        clear hb0 hz0 hs0)
     | (go_at_call 50; refine (Ju g b off c l at' W0 HRD0.out hl).mono ?_; rintro e w1 hgv
        obtain ⟨v, at1, rfl, hle1, hr1, hrd1, hbt1, rfl⟩ := hgv.ok HPB.out
        have HRD1 := hid hrd1; have HB1 := hid hbt1; have HLE1 := hid hle1; have HR1 := hid hr1
        clear hgv hrd1 hbt1 hle1 hr1)
     | (with_reducible refine kQ ?_
        refine k9 (by rfl) (kF 70 _ rfl (opK_built k _)) ?_)
     | (with_reducible refine kG ?_
        refine kE (by rfl) 70 rfl (opV jd) (zj _) ?_
        intro W2 hb2 hz2 hs2
        have HB2 := hid hb2; have HZ2 := hid hz2; have HS2 := hid hs2
        clear hb2 hz2 hs2)
     | (with_reducible refine ko ?_
        refine kj (by rfl) 70 _ _ rfl w1.heap.size 0 [] (opV jd) [] (opV (k, kc, kc, k7, 0, k7)) 70 _ rfl rfl rfl rfl (by simpa using HZ2.out) rfl (by kernel_rfl) (zA _) ?_
        intro W3 hb3 hy3 hs3
        have HB3 := hid hb3; have HS3 := hid hs3
        have HY3 : Hid (W3.heap[w1.heap.size]? = some (.cells (opV (k, kc, kc, k7, 0, k7)).toArray 70 (0, 0))) := hid (by simpa using hy3)
        clear hb3 hy3 hs3
        go_frame))
   have hg0 := HRD.out.lt
   obtain ⟨z0, hz0⟩ : ∃ z0, w.heap.size = z0 := ⟨_, rfl⟩
   obtain ⟨zx, hzx⟩ : ∃ zx, w1.heap.size = zx := ⟨_, rfl⟩
   have s1 := HB1.out.size
   have s2 := HB2.out.size
   rw [hz0] at HZ0
   rw [hzx] at HZ2 HY3
   have hs0' := HS0.out; have hs2' := HS2.out; have hs3' := HS3.out
   have HRD3 : Hid (RdAt W3 g b off c l at1) := hid ((HRD1.out.keep HB2.out).but HB3.out fun k' hk' e => by omega)
   have HBW3 : Hid (But (fun k => k = g) w W3) := hid (((HB0.out.trans HB1.out fun _ _ q => q).andBelow HB2.out).trans HB3.out fun j hj e => by omega)
   have HR3 : Hid (W3.heap[z0]? = some (.cells (opV jd).toArray 70 (0, 0))) := hid ((HB3.out.block z0 (by omega) (by omega)).trans ((HB2.out.block z0 (by omega)).trans ((HB1.out.block z0 (by omega) (by omega)).trans HZ0.out)))
   have hx3 : zx < W3.heap.size := by omega
   have h03 : z0 < W3.heap.size := by omega
   have hxz : zx ≠ z0 := by omega
   have hwx : w.heap.size ≤ zx := by omega
   have hwz : w.heap.size ≤ z0 := by omega
   have hw3 : w.heap.size ≤ W3.heap.size := by omega
   rw [hzx]
   try rw [hz0]
   have HFK := hid (fun (u : World) (hu : Below W3.heap.size W3 u) => (show u.cell? ⟨zx, 0, none⟩ = some (.int .u8 (k.toNat : Int)) from (hu.cell (p := ⟨zx, 0, none⟩) hx3).trans (k6 HY3.out 0)))
   have HBD := hid (show Below W3.heap.size W3 W3.drew from (Below.refl _ _).drew)
   have HPM : Hid ((jm k).getD (zC jl) = (zC ((kq k).getD jl))) := hid (by unfold jm; cases kq k <;> rfl)
   clear hz0 hzx s1 s2 hs0' hs2' hs3' HB0 HB1 HB2 HB3 HS0 HS2 HS3 HZ0 HZ2 HRD0 HRD1
   have hE1 : ∀ (u : World) (args : Array Value), (callFunc 69 args).run Tryz.prog u = .ok (.enter 69 args) u := fun u args => enters_of Tryz.func69 (by kernel_rfl) rfl args u
   go_cut [6, 7] from 8 to 17 (fun t6 t7 wx => ∃ zp, t6 = .pointer (some ⟨zp, 0, none⟩) ∧ t7 = .bool (jm k).isSome ∧ W3.heap.size ≤ zp ∧ Hid (Below W3.heap.size W3 wx) ∧ Hid (wx.heap[zp]? = some (.cells (jq ((kq k).getD jl)).toArray 117 (0, 0))))
   case first =>
     refine kr 8 (fun u => u.cell? ⟨zx, 0, none⟩ = some (.int .u8 (k.toNat : Int))) (by kernel_rfl) ?_
     have hF0 : (fun u => u.cell? ⟨zx, 0, none⟩ = some (.int .u8 (k.toNat : Int))) W3.drew := HFK.out _ HBD.out
     refine tw 1 (.pointer (some ⟨zx, 0, none⟩)) ?_
     go_frame
     refine tkF 2 (.int .u8 (k.toNat : Int)) (by kernel_rfl) rfl (fun _ _ _ h => h) (by rfl) hF0 (fun w' hw' => ki 5 _ rfl (p := ⟨zx, 0, none⟩) rfl Tryz.underlying5 rfl hw') ?_
     go_frame
     refine zG (rs := [0, 7]) (by kernel_rfl) (by simp) ?_
     intro q' hq'
     simp only [List.mem_cons, List.not_mem_nil, or_false] at hq'
     rcases hq' with rfl | rfl
     ·
      refine kC _ rfl (by kernel_rfl) (kv (f := 69) (args := #[]) rfl rfl (fun args w => hE1 w args) (by simp)) ?_
      refine (Za (W3.drew)).mono ?_
      rintro e v1 ⟨hb1, v, rfl, ⟨mg, mn, rfl, hmv1⟩, -⟩
      have hbv1 : Below W3.heap.size W3 v1 := (HBD.out).trans (hb1.mono (HBD.out).size)
      refine ⟨_, rfl, fun _ _ => HFK.out _ hbv1, ?_⟩
      go_frame
      refine zG (rs := [3, 7]) (by kernel_rfl) (by simp) ?_
      intro q' hq'
      simp only [List.mem_cons, List.not_mem_nil, or_false] at hq'
      rcases hq' with rfl | rfl
      focus
        refine jo _ rfl (by kernel_rfl) (J0 114 _ _ rfl (vm := .map (some mg)) (vk := u8K k) rfl rfl (MapV.look2 Zp Tryz.underlying114 (fun u => JF u) hmv1 (k0 := k) trivial)) ?_
        rw [HPM.out]
        refine ⟨fun _ h => h, ?_⟩
        go_frame
        refine tw 4 (.tuple #[(zC ((kq k).getD jl)), .bool (jm k).isSome]) ?_
        go_frame
        refine tw 5 (zC ((kq k).getD jl)) ?_
        go_frame
        refine tw 6 (.bool (jm k).isSome) ?_
        go_frame
        refine ta 7 ?_
        refine zB _ rfl (by kernel_rfl) 117 rfl (jq jl) (J3 _) ?_
        intro va hba0 hzc hsa
        have hba : Below W3.heap.size W3 va := (hbv1).trans (hba0.mono (hbv1).size)
        have hzw : W3.heap.size ≤ (v1).heap.size := (hbv1).size
        have hzl : (v1).heap.size < va.heap.size := by omega
        have hma := hmv1.below hba0
        refine ⟨fun _ _ => HFK.out _ hba, ?_⟩
      rotate_left
      focus
        refine zB _ rfl (by kernel_rfl) 117 rfl (jq jl) (J3 _) ?_
        intro va hba0 hzc hsa
        have hba : Below W3.heap.size W3 va := (hbv1).trans (hba0.mono (hbv1).size)
        have hzw : W3.heap.size ≤ (v1).heap.size := (hbv1).size
        have hzl : (v1).heap.size < va.heap.size := by omega
        have hma := hmv1.below hba0
        refine ⟨fun _ _ => HFK.out _ hba, ?_⟩
        go_frame
        refine ta 3 ?_
        refine jo _ rfl (by kernel_rfl) (J0 114 _ _ rfl (vm := .map (some mg)) (vk := u8K k) rfl rfl (MapV.look2 Zp Tryz.underlying114 (fun u => JF u) hma (k0 := k) trivial)) ?_
        rw [HPM.out]
        refine ⟨fun _ h => h, ?_⟩
        go_frame
        refine tw 4 (.tuple #[(zC ((kq k).getD jl)), .bool (jm k).isSome]) ?_
        go_frame
        refine tw 5 (zC ((kq k).getD jl)) ?_
        go_frame
        refine tw 6 (.bool (jm k).isSome) ?_
      all_goals
        go_frame
        refine ta 8 ?_
        refine jE _ rfl (by kernel_rfl) 117 _ _ rfl ((v1).heap.size) 0 [] (jq jl) [] (jq ((kq k).getD jl)) 117 (zC ((kq k).getD jl)) rfl rfl rfl rfl (by simpa using hzc) rfl (by kernel_rfl) (by intro u hu; simp only [jq, List.mem_cons, List.not_mem_nil, or_false] at hu; rcases hu with rfl | rfl | rfl | rfl | rfl <;> rfl) ?_
        intro vs hbw hzz hss
        have hbz : Below W3.heap.size W3 vs := (hba).trans (hbw.below (hba).size (fun k hk => by omega))
        have hz7 : W3.heap.size ≤ (v1).heap.size := hzw
        refine ⟨fun h => absurd h (by decide), ?_⟩
        go_frame
        refine tw 9 (.bool (jm k).isSome) ?_
        go_frame
        refine kx (by kernel_rfl) ?_ _
        go_wp2_with fail
        go_meet
        case rel => exact ⟨(v1).heap.size, rfl, rfl, hz7, hid hbz, hid (by simpa using hzz)⟩
     ·
      refine zB _ rfl (by kernel_rfl) 117 rfl (jq jl) (J3 _) ?_
      intro va hba0 hzc hsa
      have hba : Below W3.heap.size W3 va := (HBD.out).trans (hba0.mono (HBD.out).size)
      have hzw : W3.heap.size ≤ (W3.drew).heap.size := (HBD.out).size
      have hzl : (W3.drew).heap.size < va.heap.size := by omega
      refine ⟨fun _ _ => HFK.out _ hba, ?_⟩
      go_frame
      refine ta 0 ?_
      refine kC _ rfl (by kernel_rfl) (kv (f := 69) (args := #[]) rfl rfl (fun args w => hE1 w args) (by simp)) ?_
      refine (Za (va)).mono ?_
      rintro e v1 ⟨hb1, v, rfl, ⟨mg, mn, rfl, hmv1⟩, -⟩
      have hbv1 : Below W3.heap.size W3 v1 := (hba).trans (hb1.mono (hba).size)
      have hzv := (hb1.block _ (Array.getElem?_eq_some_iff.1 hzc).1).trans hzc
      refine ⟨_, rfl, fun _ _ => HFK.out _ hbv1, ?_⟩
      go_frame
      refine ta 3 ?_
      refine jo _ rfl (by kernel_rfl) (J0 114 _ _ rfl (vm := .map (some mg)) (vk := u8K k) rfl rfl (MapV.look2 Zp Tryz.underlying114 (fun u => JF u) hmv1 (k0 := k) trivial)) ?_
      rw [HPM.out]
      refine ⟨fun _ h => h, ?_⟩
      go_frame
      refine tw 4 (.tuple #[(zC ((kq k).getD jl)), .bool (jm k).isSome]) ?_
      go_frame
      refine tw 5 (zC ((kq k).getD jl)) ?_
      go_frame
      refine tw 6 (.bool (jm k).isSome) ?_
      go_frame
      refine ta 8 ?_
      refine jE _ rfl (by kernel_rfl) 117 _ _ rfl ((W3.drew).heap.size) 0 [] (jq jl) [] (jq ((kq k).getD jl)) 117 (zC ((kq k).getD jl)) rfl rfl rfl rfl (by simpa using hzv) rfl (by kernel_rfl) (by intro u hu; simp only [jq, List.mem_cons, List.not_mem_nil, or_false] at hu; rcases hu with rfl | rfl | rfl | rfl | rfl <;> rfl) ?_
      intro vs hbw hzz hss
      have hbz : Below W3.heap.size W3 vs := (hbv1).trans (hbw.below (hbv1).size (fun k hk => by omega))
      have hz7 : W3.heap.size ≤ (W3.drew).heap.size := hzw
      refine ⟨fun h => absurd h (by decide), ?_⟩
      go_frame
      refine tw 9 (.bool (jm k).isSome) ?_
      go_frame
      refine kx (by kernel_rfl) ?_ _
      go_wp2_with fail
      go_meet
      case rel => exact ⟨(W3.drew).heap.size, rfl, rfl, hz7, hid hbz, hid (by simpa using hzz)⟩
   case rest =>
     obtain ⟨zp, rfl, rfl, hzp, HBC, HZP⟩ := hcut
     obtain ⟨wq0, hwq⟩ : ∃ u : World, u = wc := ⟨_, rfl⟩
     subst hwq
     have HZ : Hid (OpZ w g z0 zx zp) := hid ⟨hg0, hwz, hwx, by omega, hxz, by omega, by omega⟩
     rcases hpk : kq k with _ | p
     ·
      have HPK := hid hpk
      have dk : (jm k).isSome = false := by unfold jm; rw [HPK.out]; rfl
      go_wp2_with (first
        | (go_at_call 57; refine (Ko _).mono ?_; rintro e w5 ⟨rfl, rfl⟩))
      exact ⟨rfl, RdGives.no (pOp_kind HPB.out HPK.out) rfl (HBW3.out.andBelow HBC.out)⟩
     ·
      have HPK := hid hpk
      have dk : (jm k).isSome = true := by unfold jm; rw [HPK.out]; rfl
      have HST0 : Hid (OpSt w g b off c l z0 zx zp p (k, kc, kc, k7, 0, k7) at1 wq0) := hid ⟨HRD3.out.keep HBC.out, HBW3.out.andBelow HBC.out, (HBC.out.block z0 h03).trans HR3.out, (HBC.out.block zx hx3).trans HY3.out, by rw [HZP.out, HPK.out]; rfl, jI k⟩
      have HEQ0 : Hid (pOp deps (l.drop at') = st1 deps p k (l.drop at1)) := hid ((ub HPB.out HPK.out).trans (by rw [HR1.out]))
      have HLA0 := HLE1
      go_upto_region 4 with (first
        | (go_at_call 57; refine (K6 _).mono ?_; rintro e w5 ⟨rfl, rfl⟩))
      have cp : w5.cell? ⟨zp, 0, none⟩ = some (.bool p.1) := k6 HST0.out.part 0
      go_upto_if 21 with fail
      have HO := hid HST0.out.ok
      go_cut [21] from 22 to 25 (fun _ wx => ∃ (d : za) (a9 : Nat), Hid (at1 ≤ a9) ∧ Hid (OpSt w g b off c l z0 zx zp p (k, d, kc, k7, 0, k7) a9 wx) ∧ Hid (pOp deps (l.drop at') = st2 deps p k d (l.drop a9)))
      case first =>
        cases hpb : p.1
        · go_wp2_with fail
          go_meet
          case rel => exact ⟨kc, at1, hid (Nat.le_refl _), HST0, hid (HEQ0.out.trans (ZF hpb))⟩
        ·
         rcases hpx : (JD deps) (l.drop at1) with _ | ⟨d, rr⟩
         ·
          have HPX := hid hpx
          clear hpx
          go_wp2_with (first
            | (go_at_call 91; refine (vQ g b off c l at1 w5 HST0.out.rd hl deps Ad cd hdl HDO.out (HST0.out.but.own HD.out fun k' hk' e => by have := (HD.out.lt k' hk').1; omega)).mono ?_; rintro e w8 hgv
               obtain ⟨rfl, hbt⟩ := hgv.bad HPX.out))
          exact ⟨rfl, RdGives.no (HEQ0.out.trans (ZH hpb HPX.out)) rfl (HST0.out.but.trans hbt fun _ _ q => q)⟩
         ·
          have HPX := hid hpx
          clear hpx
          go_wp2_with (first
            | (go_at_call 91; refine (vQ g b off c l at1 w5 HST0.out.rd hl deps Ad cd hdl HDO.out (HST0.out.but.own HD.out fun k' hk' e => by have := (HD.out.lt k' hk').1; omega)).mono ?_; rintro e w8 hgv
               obtain ⟨v', a9, rfl, hle, hr2, hrd2, hbt2, ⟨rfl, hrk⟩⟩ := hgv.ok HPX.out
               have HRK := hid hrk
               clear hrk
               have HLE2 := hid hle; have HR2 := hid hr2
               have HS8 := hid (HST0.out.read HZ.out hrd2 hbt2)
               clear hgv hrd2 hbt2 hle hr2)
            | (with_reducible refine ko ?_
               refine kj (by rfl) 68 _ _ rfl zx 1 [.int .u8 (k.toNat : Int)] (kf kc) (kf kc ++ [.string k7, .int .i64 0, .string k7]) (kf d) 70 (.agg (kf d).toArray) rfl rfl rfl rfl (by rw [← show opV (k, kc, kc, k7, 0, k7) = [.int .u8 (k.toNat : Int)] ++ ((kf kc) ++ (kf kc ++ [.string k7, .int .i64 0, .string k7])) from rfl]; exact HS8.out.box) (by rw [k8 ku, k8 HRK.out]) (by rw [k8 HRK.out]; exact kn) (jO _) ?_
               intro W9 hb9 hy9 hs9
               rw [← show opV (k, d, kc, k7, 0, k7) = [.int .u8 (k.toNat : Int)] ++ ((kf d) ++ (kf kc ++ [.string k7, .int .i64 0, .string k7])) from rfl] at hy9
               have HS9 := hid (HS8.out.store HZ.out hb9 hy9 ⟨⟨HRK.out, HO.out.1.2.1, HO.out.1.2.2⟩, HO.out.2.1, HO.out.2.2⟩)
               clear hb9 hy9 hs9
               go_frame))
          go_meet
          case rel => exact ⟨d, a9, HLE2, HS9, hid (HEQ0.out.trans (ZG hpb (HPX.out.trans (by rw [HR2.out]))))⟩
      case rest =>
        obtain ⟨d, a1, hla9, HST1, HEQ1⟩ := hcut
        obtain ⟨wq1, hwq⟩ : ∃ u : World, u = wc := ⟨_, rfl⟩
        subst hwq
        have HLA1 := hid (Nat.le_trans HLA0.out hla9.out)
        clear HST0 HEQ0 HLA0 hla9 HO cp
        have cp : wq1.cell? ⟨zp, 1, none⟩ = some (.bool p.2.1) := k6 HST1.out.part 1
        go_upto_if 27 with fail
        have HO := hid HST1.out.ok
        go_cut [27] from 28 to 31 (fun _ wx => ∃ (r : za) (a9 : Nat), Hid (a1 ≤ a9) ∧ Hid (OpSt w g b off c l z0 zx zp p (k, d, r, k7, 0, k7) a9 wx) ∧ Hid (pOp deps (l.drop at') = st3 p k d r (l.drop a9)))
        case first =>
          cases hpb : p.2.1
          · go_wp2_with fail
            go_meet
            case rel => exact ⟨kc, a1, hid (Nat.le_refl _), HST1, hid (HEQ1.out.trans (ZF hpb))⟩
          ·
           rcases hpx : (JD deps) (l.drop a1) with _ | ⟨r, rr⟩
           ·
            have HPX := hid hpx
            clear hpx
            go_wp2_with (first
              | (go_at_call 91; refine (vQ g b off c l a1 wq1 HST1.out.rd hl deps Ad cd hdl HDO.out (HST1.out.but.own HD.out fun k' hk' e => by have := (HD.out.lt k' hk').1; omega)).mono ?_; rintro e w8 hgv
                 obtain ⟨rfl, hbt⟩ := hgv.bad HPX.out))
            exact ⟨rfl, RdGives.no (HEQ1.out.trans (ZH hpb HPX.out)) rfl (HST1.out.but.trans hbt fun _ _ q => q)⟩
           ·
            have HPX := hid hpx
            clear hpx
            go_wp2_with (first
              | (go_at_call 91; refine (vQ g b off c l a1 wq1 HST1.out.rd hl deps Ad cd hdl HDO.out (HST1.out.but.own HD.out fun k' hk' e => by have := (HD.out.lt k' hk').1; omega)).mono ?_; rintro e w8 hgv
                 obtain ⟨v', a9, rfl, hle, hr2, hrd2, hbt2, ⟨rfl, hrk⟩⟩ := hgv.ok HPX.out
                 have HRK := hid hrk
                 clear hrk
                 have HLE2 := hid hle; have HR2 := hid hr2
                 have HS8 := hid (HST1.out.read HZ.out hrd2 hbt2)
                 clear hgv hrd2 hbt2 hle hr2)
              | (with_reducible refine ko ?_
                 refine kj (by rfl) 68 _ _ rfl zx 34 (.int .u8 (k.toNat : Int) :: kf d) (kf kc) [.string k7, .int .i64 0, .string k7] (kf r) 70 (.agg (kf r).toArray) rfl (by rw [List.length_cons, k8 HO.out.1.1]) rfl rfl (by rw [← show opV (k, d, kc, k7, 0, k7) = (.int .u8 (k.toNat : Int) :: kf d) ++ ((kf kc) ++ [.string k7, .int .i64 0, .string k7]) from (ZW _ _ _ _ _ _)]; exact HS8.out.box) (by rw [k8 ku, k8 HRK.out]) (by rw [k8 HRK.out]; exact kn) (jO _) ?_
                 intro W9 hb9 hy9 hs9
                 rw [← show opV (k, d, r, k7, 0, k7) = (.int .u8 (k.toNat : Int) :: kf d) ++ ((kf r) ++ [.string k7, .int .i64 0, .string k7]) from (ZW _ _ _ _ _ _)] at hy9
                 have HS9 := hid (HS8.out.store HZ.out hb9 hy9 ⟨⟨HO.out.1.1, HRK.out, HO.out.1.2.2⟩, HO.out.2.1, HO.out.2.2⟩)
                 clear hb9 hy9 hs9
                 go_frame))
            go_meet
            case rel => exact ⟨r, a9, HLE2, HS9, hid (HEQ1.out.trans (ZG hpb (HPX.out.trans (by rw [HR2.out]))))⟩
        case rest =>
          obtain ⟨r, a2, hla9, HST2, HEQ2⟩ := hcut
          obtain ⟨wq2, hwq⟩ : ∃ u : World, u = wc := ⟨_, rfl⟩
          subst hwq
          have HLA2 := hid (Nat.le_trans HLA1.out hla9.out)
          clear HST1 HEQ1 HLA1 hla9 HO cp
          have cp : wq2.cell? ⟨zp, 2, none⟩ = some (.bool p.2.2.1) := k6 HST2.out.part 2
          go_upto_if 33 with fail
          have HO := hid HST2.out.ok
          go_cut [33] from 34 to 36 (fun _ wx => ∃ (t : ByteArray) (a9 : Nat), Hid (a2 ≤ a9) ∧ Hid (OpSt w g b off c l z0 zx zp p (k, d, r, t, 0, k7) a9 wx) ∧ Hid (pOp deps (l.drop at') = st4 p k d r t (l.drop a9)))
          case first =>
            cases hpb : p.2.2.1
            · go_wp2_with fail
              go_meet
              case rel => exact ⟨k7, a2, hid (Nat.le_refl _), HST2, hid (HEQ2.out.trans (ZF hpb))⟩
            ·
             rcases hpx : jL (l.drop a2) with _ | ⟨t, rr⟩
             ·
              have HPX := hid hpx
              clear hpx
              go_wp2_with (first
                | (go_at_call 53; refine (zE g b off c l a2 wq2 HST2.out.rd hl).mono ?_; rintro e w8 hgv
                   obtain ⟨rfl, hbt⟩ := hgv.bad HPX.out))
              exact ⟨rfl, RdGives.no (HEQ2.out.trans (ZH hpb HPX.out)) rfl (HST2.out.but.trans hbt fun _ _ q => q)⟩
             ·
              have HPX := hid hpx
              clear hpx
              go_wp2_with (first
                | (go_at_call 53; refine (zE g b off c l a2 wq2 HST2.out.rd hl).mono ?_; rintro e w8 hgv
                   obtain ⟨v', a9, rfl, hle, hr2, hrd2, hbt2, rfl⟩ := hgv.ok HPX.out
                   have hrk : t.size ≤ maxLen := by have := (zZ HPX.out).2; unfold maxLen; omega
                   have HRK := hid hrk
                   clear hrk
                   have HLE2 := hid hle; have HR2 := hid hr2
                   have HS8 := hid (HST2.out.read HZ.out hrd2 hbt2)
                   clear hgv hrd2 hbt2 hle hr2)
                | (with_reducible refine ko ?_
                   refine kj (by rfl) 9 _ _ rfl zx 67 (.int .u8 (k.toNat : Int) :: (kf d ++ kf r)) [.string k7] [.int .i64 0, .string k7] [.string t] 70 (.string t) rfl (by rw [List.length_cons, List.length_append, k8 HO.out.1.1, k8 HO.out.1.2.1]) rfl rfl (by rw [← show opV (k, d, r, k7, 0, k7) = (.int .u8 (k.toNat : Int) :: (kf d ++ kf r)) ++ ([.string k7] ++ [.int .i64 0, .string k7]) from (uF _ _ _ _ _ _)]; exact HS8.out.box) rfl (by kernel_rfl) (by intro u hu; rw [List.mem_singleton.1 hu]; rfl) ?_
                   intro W9 hb9 hy9 hs9
                   rw [← show opV (k, d, r, t, 0, k7) = (.int .u8 (k.toNat : Int) :: (kf d ++ kf r)) ++ ([.string t] ++ [.int .i64 0, .string k7]) from (uF _ _ _ _ _ _)] at hy9
                   have HS9 := hid (HS8.out.store HZ.out hb9 hy9 ⟨⟨HO.out.1.1, HO.out.1.2.1, HO.out.1.2.2⟩, HRK.out, HO.out.2.2⟩)
                   clear hb9 hy9 hs9
                   go_frame))
              go_meet
              case rel => exact ⟨t, a9, HLE2, HS9, hid (HEQ2.out.trans (ZG hpb (HPX.out.trans (by rw [HR2.out]))))⟩
          case rest =>
            obtain ⟨t, a3, hla9, HST3, HEQ3⟩ := hcut
            obtain ⟨wq3, hwq⟩ : ∃ u : World, u = wc := ⟨_, rfl⟩
            subst hwq
            have HLA3 := hid (Nat.le_trans HLA2.out hla9.out)
            clear HST2 HEQ2 HLA2 hla9 HO cp
            have cp : wq3.cell? ⟨zp, 3, none⟩ = some (.bool p.2.2.2.1) := k6 HST3.out.part 3
            go_upto_if 38 with fail
            have HO := hid HST3.out.ok
            go_cut [38] from 39 to 41 (fun _ wx => ∃ (n : Int) (a9 : Nat), Hid (a3 ≤ a9) ∧ Hid (OpSt w g b off c l z0 zx zp p (k, d, r, t, n, k7) a9 wx) ∧ Hid (pOp deps (l.drop at') = st5 p k d r t n (l.drop a9)))
            case first =>
              cases hpb : p.2.2.2.1
              · go_wp2_with fail
                go_meet
                case rel => exact ⟨0, a3, hid (Nat.le_refl _), HST3, hid (HEQ3.out.trans (ZF hpb))⟩
              ·
               rcases hpx : zR (l.drop a3) with _ | ⟨n0, rr⟩
               ·
                have HPN := hid hpx
                have HPX : Hid (Jk (l.drop a3) = none) := hid (by unfold Jk jb; rw [hpx])
                clear hpx
                go_wp2_with (first
                  | (go_at_call 51; refine (jQ g b off c l a3 wq3 HST3.out.rd hl).mono ?_; rintro e w8 hgv
                     obtain ⟨rfl, hbt⟩ := hgv.bad HPN.out))
                exact ⟨rfl, RdGives.no (HEQ3.out.trans (ZH hpb HPX.out)) rfl (HST3.out.but.trans hbt fun _ _ q => q)⟩
               ·
                have HPN := hid hpx
                have HPX : Hid (Jk (l.drop a3) = some ((n0 : Int), rr)) := hid (by unfold Jk; rw [kz hpx]; rfl)
                have HRK : Hid ((Lit.int .i64 (n0 : Int)).wf = true) := hid (by have := (Kl hpx).2; simp only [Lit.wf, IntKind.min, IntKind.max, IntKind.signed, IntKind.bits, Bool.and_eq_true]; simp; omega)
                obtain ⟨n, hn⟩ : ∃ n : Int, (n0 : Int) = n := ⟨_, rfl⟩
                rw [hn] at HPX HRK
                clear hpx
                go_wp2_with (first
                  | (go_at_call 51; refine (jQ g b off c l a3 wq3 HST3.out.rd hl).mono ?_; rintro e w8 hgv
                     obtain ⟨v', a9, rfl, hle, hr2, hrd2, hbt2, rfl⟩ := hgv.ok HPN.out
                     rw [hn]
                     have HLE2 := hid hle; have HR2 := hid hr2
                     have HS8 := hid (HST3.out.read HZ.out hrd2 hbt2)
                     clear hgv hrd2 hbt2 hle hr2)
                  | (with_reducible refine ko ?_
                     refine kj (by rfl) 3 _ _ rfl zx 68 (.int .u8 (k.toNat : Int) :: (kf d ++ (kf r ++ [.string t]))) [.int .i64 0] [.string k7] [.int .i64 n] 70 (.int .i64 n) rfl (by rw [List.length_cons, List.length_append, List.length_append, k8 HO.out.1.1, k8 HO.out.1.2.1]; rfl) rfl rfl (by rw [← show opV (k, d, r, t, 0, k7) = (.int .u8 (k.toNat : Int) :: (kf d ++ (kf r ++ [.string t]))) ++ ([.int .i64 0] ++ [.string k7]) from (uG _ _ _ _ _ _)]; exact HS8.out.box) rfl (by kernel_rfl) (by intro u hu; rw [List.mem_singleton.1 hu]; rfl) ?_
                     intro W9 hb9 hy9 hs9
                     rw [← show opV (k, d, r, t, n, k7) = (.int .u8 (k.toNat : Int) :: (kf d ++ (kf r ++ [.string t]))) ++ ([.int .i64 n] ++ [.string k7]) from (uG _ _ _ _ _ _)] at hy9
                     have HS9 := hid (HS8.out.store HZ.out hb9 hy9 ⟨⟨HO.out.1.1, HO.out.1.2.1, HRK.out⟩, HO.out.2.1, HO.out.2.2⟩)
                     clear hb9 hy9 hs9
                     go_frame))
                go_meet
                case rel => exact ⟨n, a9, HLE2, HS9, hid (HEQ3.out.trans (ZG hpb (HPX.out.trans (by rw [HR2.out]))))⟩
            case rest =>
              obtain ⟨n, a4, hla9, HST4, HEQ4⟩ := hcut
              obtain ⟨wq4, hwq⟩ : ∃ u : World, u = wc := ⟨_, rfl⟩
              subst hwq
              have HLA4 := hid (Nat.le_trans HLA3.out hla9.out)
              clear HST3 HEQ3 HLA3 hla9 HO cp
              have cp : wq4.cell? ⟨zp, 4, none⟩ = some (.bool p.2.2.2.2) := k6 HST4.out.part 4
              go_upto_if 43 with fail
              have HO := hid HST4.out.ok
              go_cut [43] from 44 to 46 (fun _ wx => ∃ (q : ByteArray) (a9 : Nat), Hid (a4 ≤ a9) ∧ Hid (OpSt w g b off c l z0 zx zp p (k, d, r, t, n, q) a9 wx) ∧ Hid (pOp deps (l.drop at') = some ((k, d, r, t, n, q), l.drop a9)))
              case first =>
                cases hpb : p.2.2.2.2
                · go_wp2_with fail
                  go_meet
                  case rel => exact ⟨k7, a4, hid (Nat.le_refl _), HST4, hid (HEQ4.out.trans ((ZF hpb).trans rfl))⟩
                ·
                 rcases hpx : jL (l.drop a4) with _ | ⟨q, rr⟩
                 ·
                  have HPX := hid hpx
                  clear hpx
                  go_wp2_with (first
                    | (go_at_call 53; refine (zE g b off c l a4 wq4 HST4.out.rd hl).mono ?_; rintro e w8 hgv
                       obtain ⟨rfl, hbt⟩ := hgv.bad HPX.out))
                  exact ⟨rfl, RdGives.no (HEQ4.out.trans (ZH hpb HPX.out)) rfl (HST4.out.but.trans hbt fun _ _ q => q)⟩
                 ·
                  have HPX := hid hpx
                  clear hpx
                  go_wp2_with (first
                    | (go_at_call 53; refine (zE g b off c l a4 wq4 HST4.out.rd hl).mono ?_; rintro e w8 hgv
                       obtain ⟨v', a9, rfl, hle, hr2, hrd2, hbt2, rfl⟩ := hgv.ok HPX.out
                       have hrk : q.size ≤ maxLen := by have := (zZ HPX.out).2; unfold maxLen; omega
                       have HRK := hid hrk
                       clear hrk
                       have HLE2 := hid hle; have HR2 := hid hr2
                       have HS8 := hid (HST4.out.read HZ.out hrd2 hbt2)
                       clear hgv hrd2 hbt2 hle hr2)
                    | (with_reducible refine ko ?_
                       refine kj (by rfl) 9 _ _ rfl zx 69 (.int .u8 (k.toNat : Int) :: (kf d ++ (kf r ++ [.string t, .int .i64 n]))) [.string k7] [] [.string q] 70 (.string q) rfl (by rw [List.length_cons, List.length_append, List.length_append, k8 HO.out.1.1, k8 HO.out.1.2.1]; rfl) rfl rfl (by rw [← show opV (k, d, r, t, n, k7) = (.int .u8 (k.toNat : Int) :: (kf d ++ (kf r ++ [.string t, .int .i64 n]))) ++ ([.string k7] ++ []) from (ZX _ _ _ _ _ _)]; exact HS8.out.box) rfl (by kernel_rfl) (by intro u hu; rw [List.mem_singleton.1 hu]; rfl) ?_
                       intro W9 hb9 hy9 hs9
                       rw [← show opV (k, d, r, t, n, q) = (.int .u8 (k.toNat : Int) :: (kf d ++ (kf r ++ [.string t, .int .i64 n]))) ++ ([.string q] ++ []) from (ZX _ _ _ _ _ _)] at hy9
                       have HS9 := hid (HS8.out.store HZ.out hb9 hy9 ⟨⟨HO.out.1.1, HO.out.1.2.1, HO.out.1.2.2⟩, HO.out.2.1, HRK.out⟩)
                       clear hb9 hy9 hs9
                       go_frame))
                  go_meet
                  case rel => exact ⟨q, a9, HLE2, HS9, hid (HEQ4.out.trans ((ZG hpb (HPX.out.trans (by rw [HR2.out]))).trans rfl))⟩
              case rest =>
                obtain ⟨q, a5, hla9, HST5, HEQ5⟩ := hcut
                obtain ⟨wq5, hwq⟩ : ∃ u : World, u = wc := ⟨_, rfl⟩
                subst hwq
                have HLA5 := hid (Nat.le_trans HLA4.out hla9.out)
                clear HST4 HEQ4 HLA4 hla9 HO cp
                go_wp2_with (first
                  | (with_reducible refine ke ?_
                     refine k9 (by rfl) (kd 70 _ rfl (p := ⟨zx, 0, none⟩) rfl (run_loadVar_mid _ _ _ _ (opV (k, d, r, t, n, q)) _ (fun j u hj => by rw [Nat.zero_add]; exact (k6 HST5.out.box j).trans hj) Tryz.underlying70 rfl (by rw [kg HST5.out.ok]; exact kw))) ?_)
                  | (with_reducible refine ko ?_
                     refine kj (by rfl) 70 _ _ rfl z0 0 [] (opV jd) [] (opV (k, d, r, t, n, q)) 70 (.agg (opV (k, d, r, t, n, q)).toArray) rfl rfl rfl rfl (by simpa using HST5.out.res) (by rw [kg HST5.out.ok]; exact kg (jI 0)) (by rw [kg HST5.out.ok]; exact kw) (zA _) ?_
                     intro W9 hb9 hy9 hs9
                     have HB9 := hid hb9
                     have HY9 : Hid (W9.heap[z0]? = some (.cells (opV (k, d, r, t, n, q)).toArray 70 (0, 0))) := hid (by simpa using hy9)
                     clear hb9 hy9 hs9))
                refine bodyPost_end (jy Tryz.results56 _ _ rfl (run_loadVar_mid _ z0 0 70 (opV (k, d, r, t, n, q)) _ (fun j u hj => by rw [Nat.zero_add]; exact (k6 HY9.out j).trans hj) Tryz.underlying70 rfl (by rw [kg HST5.out.ok]; exact kw))) rfl ?_
                exact RdGives.yes HEQ5.out rfl HLA5.out rfl (HST5.out.rd.but HB9.out fun k hk e => by have := HZ.out.low; have := HZ.out.h0; omega) (HST5.out.but.trans HB9.out fun i hi e => by have := HZ.out.h0; omega) ⟨rfl, HST5.out.ok⟩
end Go.Proofs.YthjaepmfkgejkaaGreatDoor
