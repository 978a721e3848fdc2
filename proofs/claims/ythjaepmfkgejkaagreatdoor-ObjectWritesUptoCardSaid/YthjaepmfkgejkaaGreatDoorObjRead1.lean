/-
  What the reader's object gives. Conditions: as it says.
-/
import Derived.Test.YthjaepmfkgejkaaGreatDoorMerged1
import Derived.Test.YthjaepmfkgejkaaGreatDoorMerged4
import Derived.Test.YthjaepmfkgejkaaGreatDoorMerged18
import Derived.Test.YthjaepmfkgejkaaGreatDoorMerged17
set_option linter.unusedVariables false
set_option linter.unusedSimpArgs false
set_option maxHeartbeats 4000000
set_option maxRecDepth 100000
namespace Go.Proofs.YthjaepmfkgejkaaGreatDoor
open Lib (hid)
open Go.RowKit Go.Maps
theorem Q3 {wz : World} {B : Nat} {t : Nat} {ps cs : List (List UInt8)} {au ms : ByteArray} {Ap Ac : Option Addr} {cp cc : Nat} (hi : IdsOk ps) (hi2 : IdsOk cs) (hd : wz.ownsRow B 47 32 (.slice Ap ps.length cp) ps.length (kr ps)) (ho : wz.ownsRow B 47 32 (.slice Ac cs.length cc) cs.length (kr cs)) (ht : t < 9223372036854775808) (ha : au.size ≤ 4096) (hm : ms.size ≤ 4096) :
    ObjIn wz wz.heap.size (.agg ([.int .u8 2, .int .i64 0, .slice none 0 0, .string kc, .slice none 0 0, .slice Ap ps.length cp, .slice Ac cs.length cc, .string au, .string ms, .int .i64 (t : Int)] : List Value).toArray) (2, jq, (ps, cs, au, ms, (t : Int))) := by
  refine ⟨⟨⟨(by decide : (Lit.int .i64 0).wf = true), ?_, ?_⟩, hi, hi2, ?_⟩, ?_, ?_, ?_, ?_, none, 0, none, 0, Ap, cp, Ac, cc, rfl, Sl.nil, Sl.nil, Sl.of_own hd, Sl.of_own ho⟩
  · intro x hx; cases hx
  · intro x hx; cases hx
  · simp only [Lit.wf, IntKind.min, IntKind.max, IntKind.signed, IntKind.bits, Bool.and_eq_true]
    simp
    omega
  · intro x hx; cases hx
  · show (0 : Nat) ≤ maxLen
    omega
  · show au.size ≤ maxLen
    unfold maxLen; omega
  · show ms.size ≤ maxLen
    unfold maxLen; omega
theorem Q4 {wz : World} {B : Nat} {t : Nat} {ds : List (List UInt8)} {au : ByteArray} {ops : List OpD} {Ad Ao : Option Addr} {cd co : Nat} (hi : IdsOk ds) (hop : ∀ x ∈ ops, Je x) (hd : wz.ownsRow B 47 32 (.slice Ad ds.length cd) ds.length (kr ds)) (ho : wz.ownsRow B 70 70 (.slice Ao ops.length co) ops.length (jb opV ops)) (ht : t < 9223372036854775808) (ha : au.size ≤ 4096) :
    ObjIn wz wz.heap.size (.agg ([.int .u8 1, .int .i64 (t : Int), .slice Ad ds.length cd, .string au, .slice Ao ops.length co, .slice none 0 0, .slice none 0 0, .string kc, .string kc, .int .i64 0] : List Value).toArray) (1, ((t : Int), ds, au, ops), ju) := by
  refine ⟨⟨⟨?_, hi, fun x hx => (hop x hx).1⟩, ?_, ?_, (by decide : (Lit.int .i64 0).wf = true)⟩, hop, ?_, ?_, ?_, Ad, cd, Ao, co, none, 0, none, 0, rfl, Sl.of_own hd, Sl.of_own ho, Sl.nil, Sl.nil⟩
  · simp only [Lit.wf, IntKind.min, IntKind.max, IntKind.signed, IntKind.bits, Bool.and_eq_true]
    simp
    omega
  · intro x hx; cases hx
  · intro x hx; cases hx
  · show au.size ≤ maxLen
    unfold maxLen; omega
  · show (0 : Nat) ≤ maxLen
    omega
  · show (0 : Nat) ≤ maxLen
    omega
theorem uC {ρ : Operand → Value} {o : Oper} {w : World} (x y : Operand) (t' : TypeId) (ho : o.op = .binOp .eql 3 x y t') {m n : Int} (hx : ρ x = .int .i64 m) (hy : ρ y = .int .i64 n) {r : Bool} (hr : (m == n) = r) : (execOp ρ o).run Tryz.prog w = .ok (.value (.bool r)) w := by
  subst hr
  unfold execOp
  simp only [ho, hx, hy]
  rfl
theorem uD {α : Type} {d : Ps α} : ∀ {n : Nat} {l r : List UInt8} {xs : List α}, Z4 d n l = some (xs, r) → xs.length = n
  | 0, l, r, xs, h => by cases h; rfl
  | n + 1, l, r, xs, h => by
    obtain ⟨a, s, _, h2⟩ := vS (d := d) h
    obtain ⟨t, s2, h3, h4⟩ := vS h2
    cases h4
    simp [uD h3]
theorem ZG {α : Type} {d : Ps α} {most : Nat} {l r : List UInt8} {xs : List α} (h : kY most d l = some (xs, r)) : xs.length ≤ most := by
  obtain ⟨n, s, _, h2⟩ := vS h
  unfold vJ at h2
  split at h2
  · rename_i hn
    rw [uD h2]; exact of_decide_eq_true hn
  · cases h2
section
variable {r1 r2 r3 r4 r5 : List UInt8} {t : Nat} {ds : List (List UInt8)} {au : ByteArray} {ops : List OpD}
theorem JW (h : Kj r1 = some (t, r2)) : ZL r1 = some ((t : Int), r2) := by unfold ZL; rw [kF h]; rfl
theorem pCm0 (h : kY 2 pId r1 = none) : zW r1 = none := by unfold zW kP; rw [h]
theorem pCm1 {ps : List (List UInt8)} (h1 : kY 2 pId r1 = some (ps, r2)) (h : kY 4096 pId r2 = none) : zW r1 = none := by unfold zW; rw [kF h1]; unfold kP; rw [h]
theorem pCm2 {ps : List (List UInt8)} (h1 : kY 2 pId r1 = some (ps, r2)) (h2 : kY 4096 pId r2 = some (ds, r3)) (h : jS r3 = none) : zW r1 = none := by unfold zW; rw [kF h1, kF h2]; unfold kP; rw [h]
theorem pCm3 {ps : List (List UInt8)} (h1 : kY 2 pId r1 = some (ps, r2)) (h2 : kY 4096 pId r2 = some (ds, r3)) (h3 : jS r3 = some (au, r4)) (h : jS r4 = none) : zW r1 = none := by unfold zW; rw [kF h1, kF h2, kF h3]; unfold kP; rw [h]
theorem pCm4 {ps : List (List UInt8)} {ms : ByteArray} (h1 : kY 2 pId r1 = some (ps, r2)) (h2 : kY 4096 pId r2 = some (ds, r3)) (h3 : jS r3 = some (au, r4)) (h4 : jS r4 = some (ms, r5)) (h : Kj r5 = none) : zW r1 = none := by unfold zW ZL; rw [kF h1, kF h2, kF h3, kF h4]; unfold kP; rw [h]
theorem pCm5 {ps : List (List UInt8)} {ms : ByteArray} {r6 : List UInt8} (h1 : kY 2 pId r1 = some (ps, r2)) (h2 : kY 4096 pId r2 = some (ds, r3)) (h3 : jS r3 = some (au, r4)) (h4 : jS r4 = some (ms, r5)) (h5 : Kj r5 = some (t, r6)) : zW r1 = some ((ps, ds, au, ms, (t : Int)), r6) := by unfold zW; rw [kF h1, kF h2, kF h3, kF h4, kF (JW h5)]; rfl
theorem pCh0 (h : Kj r1 = none) : Kq r1 = none := by unfold Kq ZL kP; rw [h]
theorem pCh1 (h1 : Kj r1 = some (t, r2)) (h : kY 4096 pId r2 = none) : Kq r1 = none := by unfold Kq; rw [kF (JW h1)]; unfold kP; rw [h]
theorem pCh2 (h1 : Kj r1 = some (t, r2)) (h2 : kY 4096 pId r2 = some (ds, r3)) (h : jS r3 = none) : Kq r1 = none := by unfold Kq; rw [kF (JW h1), kF h2]; unfold kP; rw [h]
theorem pCh3 (h1 : Kj r1 = some (t, r2)) (h2 : kY 4096 pId r2 = some (ds, r3)) (h3 : jS r3 = some (au, r4)) (h : kY 4096 (pOp ds) r4 = none) : Kq r1 = none := by unfold Kq; rw [kF (JW h1), kF h2, kF h3]; unfold kP; rw [h]
theorem pCh4 (h1 : Kj r1 = some (t, r2)) (h2 : kY 4096 pId r2 = some (ds, r3)) (h3 : jS r3 = some (au, r4)) (h4 : kY 4096 (pOp ds) r4 = some (ops, r5)) : Kq r1 = some (((t : Int), ds, au, ops), r5) := by unfold Kq; rw [kF (JW h1), kF h2, kF h3, kF h4]; rfl
end
theorem Kn (w : World) : (zeroValue 30).run Tryz.prog w = .ok (.agg ([.int .u8 0, .int .i64 0, .slice none 0 0, .string kc, .slice none 0 0, .slice none 0 0, .slice none 0 0, .string kc, .string kc, .int .i64 0] : List Value).toArray) w := by kernel_rfl
theorem ObjSt.but_cb {w0 w wy : World} {g b off c : Nat} {l : List UInt8} {rb zo a cb : Nat} {cs : List Value} (h : ObjSt w0 g b off c l rb zo a cs w) (hz : ObjZ w0 g rb zo) (hb : But (fun k => k = cb) w wy) (h1 : rb < cb) (h2 : zo < cb) (h3 : g < cb) : ObjSt w0 g b off c l rb zo a cs wy := by
  have h5 := hz.low; have h6 := hz.zr
  exact ⟨h.rd.but hb fun k hk e => by omega, h.but.trans hb fun i hi e => by omega, (hb.block rb h.lr (by omega)).trans h.rbox, (hb.block zo h.lo (by omega)).trans h.obj⟩
theorem robj_any (g b off c : Nat) (l : List UInt8) (w : World) (hr : RdAt w g b off c l 0) (hl : l.length ≤ 1099511627776) (hg : Glob w) (hgn : 2 < g) :
    Calls Tryz.prog 24 #[.pointer (some ⟨g, 0, none⟩)] w (ObjGives g l w) := by
  have HRD := hid hr; have HG := hid hg; have HGN := hid hgn
  clear hr hg hgn
  have hE1 := enE Tryz.func51 rfl
  have hE2 := enE Tryz.func52 rfl
  have hE3 := enE Tryz.func53 rfl
  have hE5 := enE Tryz.func57 rfl
  have hE6 := enE Tryz.func15 rfl
  go_enter Tryz.func24, Tryz.ntmps24
  go_upto_region 1 with (first
    | (with_reducible refine kz ?_
       refine ko (by rfl) 57 _ rfl [.pointer (some ⟨g, 0, none⟩)] _ rfl rfl (by kernel_rfl) ?_
       intro W0 hb0 hz0 hs0
       have HB0 := hid hb0; have HZ0 := hid hz0
       clear hb0 hz0)
    | (with_reducible refine kw ?_
       refine ku (by rfl) 30 rfl [.int .u8 0, .int .i64 0, .slice none 0 0, .string kc, .slice none 0 0, .slice none 0 0, .slice none 0 0, .string kc, .string kc, .int .i64 0] (Kn _) ?_
       intro W1 hb1 hz1 hs1
       have HB1 := hid hb1; have HZ1 := hid hz1
       clear hb1 hz1))
  have hlt := HRD.out.lt
  obtain ⟨rb, hrb⟩ : ∃ rb, w.heap.size = rb := ⟨_, rfl⟩
  obtain ⟨zo, hzo⟩ : ∃ zo, W0.heap.size = zo := ⟨_, rfl⟩
  have HST : Hid (ObjSt w g b off c l rb zo 0 [.int .u8 0, .int .i64 0, .slice none 0 0, .string kc, .slice none 0 0, .slice none 0 0, .slice none 0 0, .string kc, .string kc, .int .i64 0] W1) := hid ⟨(HRD.out.keep HB0.out).keep HB1.out, (But.of_below (X := fun k => k = g) HB0.out).andBelow HB1.out, by rw [← hrb]; exact (HB1.out.block w.heap.size (by omega)).trans HZ0.out, by rw [← hzo]; exact HZ1.out⟩
  have HZ : Hid (ObjZ w g rb zo) := hid ⟨hlt, by omega, by omega, by omega⟩
  rw [hrb] at hs0 ⊢
  rw [hzo] at hs0 hs1 ⊢
  have c0 : W1.cell? ⟨rb, 0, none⟩ = some (.pointer (some ⟨g, 0, none⟩)) := k5 HST.out.rbox 0
  have HSO := hid (show zo < W1.heap.size by omega)
  clear hrb hzo hs0 hs1 hlt HB0 HZ0 HB1 HZ1
  rcases hp : Z3 (l.drop 0) with _ | ⟨k, r1⟩
  ·
   have HP := hid hp
   clear hp
   go_wp2_with (first
     | (go_at_call 50; refine (JI g b off c l 0 W1 HST.out.rd hl).mono ?_; rintro e W2 hgv
        obtain ⟨rfl, hbt⟩ := hgv.bad HP.out))
   exact ⟨rfl, ObjGives.no (UZ HP.out) rfl (HST.out.but.trans hbt fun _ _ q => q)⟩
  ·
   have HP := hid hp
   clear hp
   by_cases h67 : k = 67
   ·
    subst h67
    have HRS := hid (readS_ch (l := l) HP.out)
    go_upto_region 6 with (first
      | (go_at_call 50; refine (JI g b off c l 0 W1 HST.out.rd hl).mono ?_; rintro e W2 hgv
         obtain ⟨v, a1, rfl, hle, hr1, hrd1, hbt1, rfl⟩ := hgv.ok HP.out
         have HST2 := hid (HST.out.read HZ.out hrd1 hbt1)
         have HR1 := hid hr1
         clear hgv hle hr1 hrd1 hbt1 HST c0)
      | (with_reducible refine ks ?_
         refine km (by rfl) 5 _ _ rfl zo 0 [] [.int .u8 0] [.int .i64 0, .slice none 0 0, .string kc, .slice none 0 0, .slice none 0 0, .slice none 0 0, .string kc, .string kc, .int .i64 0] [.int .u8 1] 30 (.int .u8 1) rfl rfl rfl rfl HST2.out.obj rfl (by kernel_rfl) (by intro u hu; rw [List.mem_singleton.1 hu]; rfl) ?_
         intro W3 hbs hys hss
         have HST3 : Hid (ObjSt w g b off c l rb zo a1 [.int .u8 1, .int .i64 0, .slice none 0 0, .string kc, .slice none 0 0, .slice none 0 0, .slice none 0 0, .string kc, .string kc, .int .i64 0] W3) := hid (HST2.out.put HZ.out hbs hys)
         clear hbs hys hss)
      | (with_reducible refine kw ?_
         refine ZF (by rfl) 96 rfl (.pointer none) rfl (fun _ => by kernel_rfl) ?_
         intro W4 hb4 hy4 hs4
         have HB4 := hid hb4; have HY4 := hid hy4
         clear hb4 hy4 hs4)
      | (with_reducible refine ks ?_
         refine km (by rfl) 96 _ _ rfl W3.heap.size 0 [] [.pointer none] [] [.pointer (some ⟨zo, 1, none⟩)] 96 (.pointer (some ⟨zo, 1, none⟩)) rfl rfl rfl rfl HY4.out rfl (by kernel_rfl) (by intro u hu; rw [List.mem_singleton.1 hu]; rfl) ?_
         intro W5 hb5 hy5 hs5
         have HB5 := hid hb5; have HY5 := hid hy5
         clear hb5 hy5 hs5))
    obtain ⟨cb, hcb⟩ : ∃ cb, W3.heap.size = cb := ⟨_, rfl⟩
    have HCG : Hid (¬ cb = g) := hid (by have h1 := HZ.out.low; have h2 := HZ.out.zr; have h3 := HST3.out.lr; omega)
    have HCZ : Hid (¬ cb = zo) := hid (by have h3 := HST3.out.lo; omega)
    have HCW : Hid (w.heap.size ≤ cb) := hid (by have h1 := HZ.out.zz; have h3 := HST3.out.lo; omega)
    rw [hcb] at HY5 HB5 ⊢
    have HST1 : Hid (ObjSt w g b off c l rb zo a1 [.int .u8 1, .int .i64 0, .slice none 0 0, .string kc, .slice none 0 0, .slice none 0 0, .slice none 0 0, .string kc, .string kc, .int .i64 0] W5) := hid ((HST3.out.keep HB4.out).but_cb HZ.out HB5.out (by have h3 := HST3.out.lr; omega) (by have h3 := HST3.out.lo; omega) (by have h1 := HZ.out.low; have h2 := HZ.out.zr; have h3 := HST3.out.lr; omega))
    have HCB1 : Hid (W5.heap[cb]? = some (.cells [.pointer (some ⟨zo, 1, none⟩)].toArray 96 (0, 0))) := hid HY5.out
    clear hcb HB4 HY4 HB5 HY5 HST2 HST3
    obtain ⟨W6, hW6⟩ : ∃ u : World, u = W5 := ⟨_, rfl⟩
    subst hW6
    refine rN 3 (fun u => u.cell? ⟨rb, 0, none⟩ = some (.pointer (some ⟨g, 0, none⟩)) ∧ u.cell? ⟨cb, 0, none⟩ = some (.pointer (some ⟨zo, 1, none⟩))) (⟨k5 (HST1.out.keep (qD _ W6)).rbox 0, k5 ((((qD _ W6).block cb (qX HCB1.out))).trans HCB1.out) 0⟩) fun hF0 => ?_
    rcases hpx : Kj r1 with _ | ⟨t, r2⟩
    ·
     have HNO : Hid (zk l = none) := hid (by rw [HRS.out, pCh0  hpx])
     have HQ1 := hid hpx
     clear hpx
     have HPX : Hid (Kj (l.drop a1) = none) := hid (by rw [← HR1.out]; exact HQ1.out)
     refine tl 0 (.pointer (some ⟨zo, 1, none⟩)) rfl hF0 (fun w' hw' => l1 Tryz.underlying96 hw'.2) ?_
     go_frame
     refine tl 1 (.pointer (some ⟨g, 0, none⟩)) rfl hF0 (fun w' hw' => l1 Tryz.underlying57 hw'.1) ?_
     go_frame
     refine ta 2 ?_
     refine tp #[.pointer (some ⟨g, 0, none⟩)] hE1 rfl ?_
     refine (jC g b off c l a1 W6.drew (HST1.out.keep (qD _ W6)).rd hl).mono ?_
     rintro e wx hgv
     obtain ⟨rfl, hbt⟩ := hgv.bad HPX.out
     exact ⟨rfl, rfl, ObjGives.no HNO.out rfl (HST1.out.but.trans ((But.refl (fun k => k = g) W6).drew.trans hbt fun _ _ q => q) fun _ _ q => q)⟩
    have HQ1 := hid hpx
    clear hpx
    have HPX : Hid (Kj (l.drop a1) = some (t, r2)) := hid (by rw [← HR1.out]; exact HQ1.out)
    refine tl 0 (.pointer (some ⟨zo, 1, none⟩)) rfl hF0 (fun w' hw' => l1 Tryz.underlying96 hw'.2) ?_
    go_frame
    refine tl 1 (.pointer (some ⟨g, 0, none⟩)) rfl hF0 (fun w' hw' => l1 Tryz.underlying57 hw'.1) ?_
    go_frame
    refine ta 2 ?_
    refine tc #[.pointer (some ⟨g, 0, none⟩)] hE1 rfl ?_
    refine (jC g b off c l a1 W6.drew (HST1.out.keep (qD _ W6)).rd hl).mono ?_
    rintro e w1 hgv
    obtain ⟨v1, a2, rfl, hle1, hr1, hrd1, hbt1, rfl⟩ := hgv.ok HPX.out
    have HSTr1 := hid ((HST1.out.keep (qD _ W6)).read HZ.out hrd1 hbt1)
    have HCBr1 : Hid (w1.heap[cb]? = some (.cells [.pointer (some ⟨zo, 1, none⟩)].toArray 96 (0, 0))) := hid ((hbt1.block cb (qX HCB1.out) HCG.out).trans HCB1.out)
    have HFr : (fun u => u.cell? ⟨rb, 0, none⟩ = some (.pointer (some ⟨g, 0, none⟩)) ∧ u.cell? ⟨cb, 0, none⟩ = some (.pointer (some ⟨zo, 1, none⟩))) w1 := ⟨k5 HSTr1.out.rbox 0, k5 HCBr1.out 0⟩
    refine ⟨_, rfl, fun _ _ => HFr, ?_⟩
    go_frame
    refine tw 3 (.pointer (some ⟨zo, 1, none⟩)) ?_
    go_frame
    refine tw 4 (.pointer (some ⟨zo, 1, none⟩)) ?_
    go_frame
    refine ta 5 ?_
    refine zf _ rfl (by kernel_rfl) 3 _ _ rfl zo 1 [.int .u8 1] [.int .i64 0] [.slice none 0 0, .string kc, .slice none 0 0, .slice none 0 0, .slice none 0 0, .string kc, .string kc, .int .i64 0] [.int .i64 (t : Int)] 30 (.int .i64 (t : Int)) rfl rfl rfl rfl HSTr1.out.obj rfl (by kernel_rfl) (by intro u hu; rw [List.mem_singleton.1 hu]; rfl) ?_
    intro W7 hbs hys hss
    have HST2 : Hid (ObjSt w g b off c l rb zo a2 [.int .u8 1, .int .i64 (t : Int), .slice none 0 0, .string kc, .slice none 0 0, .slice none 0 0, .slice none 0 0, .string kc, .string kc, .int .i64 0] W7) := hid (HSTr1.out.put HZ.out hbs hys)
    have HCB2 : Hid (W7.heap[cb]? = some (.cells [.pointer (some ⟨zo, 1, none⟩)].toArray 96 (0, 0))) := hid ((hbs.block cb (qX HCBr1.out) HCZ.out).trans HCBr1.out)
    have HR2 := hid hr1; have HLE2 := hid hle1
    clear hbs hys hss
    refine ⟨fun h => absurd h (by decide), ?_⟩
    go_frame
    refine kv (by kernel_rfl) ?_ _
    go_upto_region 7 with fail
    refine rN 3 (fun u => u.cell? ⟨rb, 0, none⟩ = some (.pointer (some ⟨g, 0, none⟩)) ∧ u.cell? ⟨cb, 0, none⟩ = some (.pointer (some ⟨zo, 1, none⟩))) (⟨k5 (HST2.out.keep (qD _ W7)).rbox 0, k5 ((((qD _ W7).block cb (qX HCB2.out))).trans HCB2.out) 0⟩) fun hF0 => ?_
    refine tl 0 (.pointer (some ⟨zo, 1, none⟩)) rfl hF0 (fun w' hw' => l1 Tryz.underlying96 hw'.2) ?_
    go_frame
    refine tl 1 (.pointer (some ⟨g, 0, none⟩)) rfl hF0 (fun w' hw' => l1 Tryz.underlying57 hw'.1) ?_
    go_frame
    refine ta 2 ?_
    rcases hpx : kY 4096 pId r2 with _ | ⟨ds, r3⟩
    ·
     have HNO : Hid (zk l = none) := hid (by rw [HRS.out, pCh1 HQ1.out hpx])
     have HQ2 := hid hpx
     clear hpx
     have HPX : Hid (kY 4096 pId (l.drop a2) = none) := hid (by rw [← HR2.out]; exact HQ2.out)
     refine tp #[.pointer (some ⟨g, 0, none⟩), .int .i64 4096] hE2 rfl ?_
     refine (Zt g b off c l a2 W7.drew (HST2.out.keep (qD _ W7)).rd hl 4096 (by decide)).mono ?_
     rintro e wx hgv
     obtain ⟨rfl, hbt⟩ := hgv.bad HPX.out
     exact ⟨rfl, rfl, ObjGives.no HNO.out rfl (HST2.out.but.trans ((But.refl (fun k => k = g) W7).drew.trans hbt fun _ _ q => q) fun _ _ q => q)⟩
    have HQ2 := hid hpx
    clear hpx
    have HPX : Hid (kY 4096 pId (l.drop a2) = some (ds, r3)) := hid (by rw [← HR2.out]; exact HQ2.out)
    refine tc #[.pointer (some ⟨g, 0, none⟩), .int .i64 4096] hE2 rfl ?_
    refine (Zt g b off c l a2 W7.drew (HST2.out.keep (qD _ W7)).rd hl 4096 (by decide)).mono ?_
    rintro e w2 hgv
    obtain ⟨v2, a3, rfl, hle2, hr2, hrd2, hbt2, hids⟩ := hgv.ok HPX.out
    obtain ⟨hio, hiow⟩ := hids
    obtain ⟨Ad, cd, rfl⟩ := kg hiow
    have HIO := hid hio
    have HSTr2 := hid ((HST2.out.keep (qD _ W7)).read HZ.out hrd2 hbt2)
    have HCBr2 : Hid (w2.heap[cb]? = some (.cells [.pointer (some ⟨zo, 1, none⟩)].toArray 96 (0, 0))) := hid ((hbt2.block cb (qX HCB2.out) HCG.out).trans HCB2.out)
    have HDWr2 : Hid (w2.ownsRow w.heap.size 47 32 (.slice Ad ds.length cd) ds.length (kr ds)) := hid (Zu hiow (qT HST2.out.but.size (qD W7.heap.size W7).size))
    have HFr : (fun u => u.cell? ⟨rb, 0, none⟩ = some (.pointer (some ⟨g, 0, none⟩)) ∧ u.cell? ⟨cb, 0, none⟩ = some (.pointer (some ⟨zo, 1, none⟩))) w2 := ⟨k5 HSTr2.out.rbox 0, k5 HCBr2.out 0⟩
    refine ⟨_, rfl, fun _ _ => HFr, ?_⟩
    go_frame
    refine tw 3 (.pointer (some ⟨zo, 1, none⟩)) ?_
    go_frame
    refine tw 4 (.pointer (some ⟨zo, 2, none⟩)) ?_
    go_frame
    refine ta 5 ?_
    refine zf _ rfl (by kernel_rfl) 23 _ _ rfl zo 2 [.int .u8 1, .int .i64 (t : Int)] [.slice none 0 0] [.string kc, .slice none 0 0, .slice none 0 0, .slice none 0 0, .string kc, .string kc, .int .i64 0] [.slice Ad ds.length cd] 30 (.slice Ad ds.length cd) rfl rfl rfl rfl HSTr2.out.obj rfl (by kernel_rfl) (by intro u hu; rw [List.mem_singleton.1 hu]; rfl) ?_
    intro W8 hbs hys hss
    have HST3 : Hid (ObjSt w g b off c l rb zo a3 [.int .u8 1, .int .i64 (t : Int), .slice Ad ds.length cd, .string kc, .slice none 0 0, .slice none 0 0, .slice none 0 0, .string kc, .string kc, .int .i64 0] W8) := hid (HSTr2.out.put HZ.out hbs hys)
    have HCB3 : Hid (W8.heap[cb]? = some (.cells [.pointer (some ⟨zo, 1, none⟩)].toArray 96 (0, 0))) := hid ((hbs.block cb (qX HCBr2.out) HCZ.out).trans HCBr2.out)
    have HDW3 : Hid (W8.ownsRow w.heap.size 47 32 (.slice Ad ds.length cd) ds.length (kr ds)) := hid (hbs.own HDWr2.out fun k hk e => jt HDWr2.out HSTr2.out.obj (by decide) (by rw [hk, e]))
    have HR3 := hid hr2; have HLE3 := hid hle2
    clear hbs hys hss
    refine ⟨fun h => absurd h (by decide), ?_⟩
    go_frame
    refine kv (by kernel_rfl) ?_ _
    go_upto_region 8 with fail
    refine rN 3 (fun u => u.cell? ⟨rb, 0, none⟩ = some (.pointer (some ⟨g, 0, none⟩)) ∧ u.cell? ⟨cb, 0, none⟩ = some (.pointer (some ⟨zo, 1, none⟩))) (⟨k5 (HST3.out.keep (qD _ W8)).rbox 0, k5 ((((qD _ W8).block cb (qX HCB3.out))).trans HCB3.out) 0⟩) fun hF0 => ?_
    refine tl 0 (.pointer (some ⟨zo, 1, none⟩)) rfl hF0 (fun w' hw' => l1 Tryz.underlying96 hw'.2) ?_
    go_frame
    refine tl 1 (.pointer (some ⟨g, 0, none⟩)) rfl hF0 (fun w' hw' => l1 Tryz.underlying57 hw'.1) ?_
    go_frame
    refine ta 2 ?_
    rcases hpx : jS r3 with _ | ⟨au, r4⟩
    ·
     have HNO : Hid (zk l = none) := hid (by rw [HRS.out, pCh2 HQ1.out HQ2.out hpx])
     have HQ3 := hid hpx
     clear hpx
     have HPX : Hid (jS (l.drop a3) = none) := hid (by rw [← HR3.out]; exact HQ3.out)
     refine tp #[.pointer (some ⟨g, 0, none⟩)] hE3 rfl ?_
     refine (zu g b off c l a3 W8.drew (HST3.out.keep (qD _ W8)).rd hl).mono ?_
     rintro e wx hgv
     obtain ⟨rfl, hbt⟩ := hgv.bad HPX.out
     exact ⟨rfl, rfl, ObjGives.no HNO.out rfl (HST3.out.but.trans ((But.refl (fun k => k = g) W8).drew.trans hbt fun _ _ q => q) fun _ _ q => q)⟩
    have HQ3 := hid hpx
    clear hpx
    have HPX : Hid (jS (l.drop a3) = some (au, r4)) := hid (by rw [← HR3.out]; exact HQ3.out)
    refine tc #[.pointer (some ⟨g, 0, none⟩)] hE3 rfl ?_
    refine (zu g b off c l a3 W8.drew (HST3.out.keep (qD _ W8)).rd hl).mono ?_
    rintro e w3 hgv
    obtain ⟨v3, a4, rfl, hle3, hr3, hrd3, hbt3, rfl⟩ := hgv.ok HPX.out
    have HSTr3 := hid ((HST3.out.keep (qD _ W8)).read HZ.out hrd3 hbt3)
    have HCBr3 : Hid (w3.heap[cb]? = some (.cells [.pointer (some ⟨zo, 1, none⟩)].toArray 96 (0, 0))) := hid ((hbt3.block cb (qX HCB3.out) HCG.out).trans HCB3.out)
    have HDWr3 : Hid (w3.ownsRow w.heap.size 47 32 (.slice Ad ds.length cd) ds.length (kr ds)) := hid (hbt3.own ((But.of_below (X := NoB) (qD _ W8)).own HDW3.out fun _ _ q => q) fun k hk e => by have h1 := (HDW3.out.lt k hk).1; have h2 := HZ.out.low; omega)
    have HFr : (fun u => u.cell? ⟨rb, 0, none⟩ = some (.pointer (some ⟨g, 0, none⟩)) ∧ u.cell? ⟨cb, 0, none⟩ = some (.pointer (some ⟨zo, 1, none⟩))) w3 := ⟨k5 HSTr3.out.rbox 0, k5 HCBr3.out 0⟩
    refine ⟨_, rfl, fun _ _ => HFr, ?_⟩
    go_frame
    refine tw 3 (.pointer (some ⟨zo, 1, none⟩)) ?_
    go_frame
    refine tw 4 (.pointer (some ⟨zo, 3, none⟩)) ?_
    go_frame
    refine ta 5 ?_
    refine zf _ rfl (by kernel_rfl) 9 _ _ rfl zo 3 [.int .u8 1, .int .i64 (t : Int), .slice Ad ds.length cd] [.string kc] [.slice none 0 0, .slice none 0 0, .slice none 0 0, .string kc, .string kc, .int .i64 0] [.string au] 30 (.string au) rfl rfl rfl rfl HSTr3.out.obj rfl (by kernel_rfl) (by intro u hu; rw [List.mem_singleton.1 hu]; rfl) ?_
    intro W9 hbs hys hss
    have HST4 : Hid (ObjSt w g b off c l rb zo a4 [.int .u8 1, .int .i64 (t : Int), .slice Ad ds.length cd, .string au, .slice none 0 0, .slice none 0 0, .slice none 0 0, .string kc, .string kc, .int .i64 0] W9) := hid (HSTr3.out.put HZ.out hbs hys)
    have HCB4 : Hid (W9.heap[cb]? = some (.cells [.pointer (some ⟨zo, 1, none⟩)].toArray 96 (0, 0))) := hid ((hbs.block cb (qX HCBr3.out) HCZ.out).trans HCBr3.out)
    have HDW4 : Hid (W9.ownsRow w.heap.size 47 32 (.slice Ad ds.length cd) ds.length (kr ds)) := hid (hbs.own HDWr3.out fun k hk e => jt HDWr3.out HSTr3.out.obj (by decide) (by rw [hk, e]))
    have HR4 := hid hr3; have HLE4 := hid hle3
    clear hbs hys hss
    refine ⟨fun h => absurd h (by decide), ?_⟩
    go_frame
    refine kv (by kernel_rfl) ?_ _
    go_upto_region 9 with fail
    have c0 : W9.cell? ⟨rb, 0, none⟩ = some (.pointer (some ⟨g, 0, none⟩)) := k5 HST4.out.rbox 0
    have hmf : ∀ (fn : Fn) (first cap : Array Value) (w : World), (Instr.makeFunc fn first cap).run Tryz.prog w = .ok (.func fn first cap) w := fun _ _ _ _ => rfl
    have hdl : ds.length ≤ 4096 := ZG HQ2.out
    have HLS := hid (rlist_ops g b off c l a4 W9 HST4.out.rd hl 4096 (by decide) ds (.pointer (some ⟨cb, 0, none⟩)) (.pointer (some ⟨rb, 0, none⟩)) (OpsJ w g b off c l rb cb zo (t : Int) au Ad cd ds) (But (fun k => k = g) w)
      (fun a w1 _ hb hrd => ⟨hrd, (hb.block rb HST4.out.lr (by have h1 := HZ.out.low; have h2 := HZ.out.zr; omega)).trans HST4.out.rbox, (hb.block cb (qX HCB4.out) HCG.out).trans HCB4.out, HZ.out.low, HZ.out.zr, HCW.out, HZ.out.zz, HZ.out.nr, fun e => HCZ.out e.symm, HST4.out.but.trans hb fun _ _ q => q, (fun x hx => by cases hx), HIO.out, hb.own HDW4.out (fun k hk e => by have h1 := (HDW4.out.lt k hk).1; have h2 := HZ.out.low; omega), nilS, (hb.block zo HST4.out.lo (by have h1 := HZ.out.low; have h2 := HZ.out.zz; omega)).trans HST4.out.obj, World.ownsRow_nil _ _ _ _⟩)
      (fun w1 hb => HST4.out.but.trans hb fun _ _ q => q)
      (fun a xs w1 hx hJ => rone_any w g b off c l rb cb zo (t : Int) au Ad cd ds a xs w1 hl (by omega) (by omega) hJ)
      (fun a xs w1 hJ => hJ.but))
    rcases hpx : kY 4096 (pOp ds) r4 with _ | ⟨ops, r5⟩
    ·
     have HNO : Hid (zk l = none) := hid (by rw [HRS.out, pCh3 HQ1.out HQ2.out HQ3.out hpx])
     have HQ4 := hid hpx
     clear hpx
     have HPX : Hid (kY 4096 (pOp ds) (l.drop a4) = none) := hid (by rw [← HR4.out]; exact HQ4.out)
     go_wp2_with (first
       | (go_at_call 54; refine HLS.out.mono ?_; rintro e wx hgv
          obtain ⟨rfl, hbt⟩ := hgv.bad HPX.out))
     exact ⟨rfl, ObjGives.no HNO.out rfl hbt⟩
    have HQ4 := hid hpx
    clear hpx
    have HRS2 : Hid (zk l = if r5 = [] ∧ kD (1, ((t : Int), ds, au, ops), ju) = true then some (1, ((t : Int), ds, au, ops), ju) else none) := hid (by rw [HRS.out, pCh4 HQ1.out HQ2.out HQ3.out HQ4.out])
    have HPX : Hid (kY 4096 (pOp ds) (l.drop a4) = some (ops, r5)) := hid (by rw [← HR4.out]; exact HQ4.out)
    go_upto_region 16 with (first
      | (go_at_call 54; refine HLS.out.mono ?_; rintro e w5 hgv
         obtain ⟨rfl, a5, hle5, hr5, hlo, hJ⟩ := hgv.ok HPX.out
         have HR5 := hid hr5; have HJ := hid hJ
         clear hgv hr5 hJ))
    have hle := HJ.out.rd.le
    obtain ⟨ov, hob, hov⟩ := HJ.out.obj
    obtain ⟨Ao, co, rfl⟩ := kg hov
    have HOB := hid hob; have HOV := hid hov
    clear hob hov
    have HFK := hid (fun (u : World) (hu : Below w5.heap.size w5 u) => (show (fun u => u.cell? ⟨rb, 0, none⟩ = some (.pointer (some ⟨g, 0, none⟩)) ∧ u.cell? ⟨g, 0, none⟩ = some (.slice (some ⟨b, off, none⟩) l.length c) ∧ u.cell? ⟨g, 1, none⟩ = some (.int .i64 (a5 : Int)) ∧ u.rangeAt zo 0 [.int .u8 1, .int .i64 (t : Int), .slice Ad ds.length cd, .string au, .slice Ao ops.length co, .slice none 0 0, .slice none 0 0, .string kc, .string kc, .int .i64 0]) u from
      ⟨(hu.cell (qX HJ.out.rbox)).trans (k5 HJ.out.rbox 0), (hu.cell HJ.out.rd.lt).trans (k5 (cs := [.slice (some ⟨b, off, none⟩) l.length c, .int .i64 (a5 : Int)]) HJ.out.rd.box 0), (hu.cell HJ.out.rd.lt).trans (k5 (cs := [.slice (some ⟨b, off, none⟩) l.length c, .int .i64 (a5 : Int)]) HJ.out.rd.box 1), fun j v hj => by rw [qZ]; exact (hu.cell (p := ⟨zo, j, none⟩) (qX HOB.out)).trans ((k5 HOB.out j).trans hj)⟩))
    refine rN 15 (fun u => u.cell? ⟨rb, 0, none⟩ = some (.pointer (some ⟨g, 0, none⟩)) ∧ u.cell? ⟨g, 0, none⟩ = some (.slice (some ⟨b, off, none⟩) l.length c) ∧ u.cell? ⟨g, 1, none⟩ = some (.int .i64 (a5 : Int)) ∧ u.rangeAt zo 0 [.int .u8 1, .int .i64 (t : Int), .slice Ad ds.length cd, .string au, .slice Ao ops.length co, .slice none 0 0, .slice none 0 0, .string kc, .string kc, .int .i64 0]) (HFK.out _ (qD w5.heap.size w5)) fun hF16 => ?_
    refine tl 0 (.pointer (some ⟨g, 0, none⟩)) rfl hF16 (fun w' hw' => l1 Tryz.underlying57 hw'.1) ?_
    go_frame
    refine tw 1 (.pointer (some ⟨g, 0, none⟩)) ?_
    go_frame
    refine tw 2 (.pointer (some ⟨g, 1, none⟩)) ?_
    go_frame
    refine tl 3 (.int .i64 (a5 : Int)) rfl hF16 (fun w' hw' => l1 Tryz.underlying3 hw'.2.2.1) ?_
    go_frame
    refine tl 4 (.pointer (some ⟨g, 0, none⟩)) rfl hF16 (fun w' hw' => l1 Tryz.underlying57 hw'.1) ?_
    go_frame
    refine tw 5 (.pointer (some ⟨g, 0, none⟩)) ?_
    go_frame
    refine tw 6 (.pointer (some ⟨g, 0, none⟩)) ?_
    go_frame
    refine tl 7 (.slice (some ⟨b, off, none⟩) l.length c) rfl hF16 (fun w' hw' => l1 Tryz.underlying22 hw'.2.1) ?_
    go_frame
    refine tk 8 (.int .i64 (l.length : Int)) rfl (fun w' hw' => Uw 22 _ rfl rfl Tryz.underlying22) ?_
    go_frame
    rcases (by omega : a5 < l.length ∨ a5 = l.length) with hq | hq
    ·
     have HEQ : Hid (((a5 : Int) == (l.length : Int)) = false) := hid (by rw [beq_eq_false_iff_ne]; omega)
     have HRN : Hid (zk l = none) := hid (by rw [HRS2.out, if_neg]; rintro ⟨h1, _⟩; rw [HR5.out] at h1; have h2 := congrArg List.length h1; rw [List.length_drop] at h2; simp at h2; omega)
     refine tk 9 (.bool false) rfl (fun w' hw' => uC _ _ _ rfl rfl rfl HEQ.out) ?_
     go_frame
     refine tw 10 (.bool false) ?_
     go_frame
     refine tn 11 ?_
     go_frame
     refine tn 12 ?_
     go_frame
     refine tw 13 (.bool false) ?_
     go_frame
     refine ta 14 ?_
     refine tp #[.bool false] hE5 rfl ?_
     refine (Ks _).mono ?_
     rintro e w9 ⟨rfl, rfl⟩
     exact ⟨rfl, rfl, ObjGives.no HRN.out rfl (HJ.out.but.trans (But.refl (fun k => k = g) w5).drew fun _ _ q => q)⟩
    ·
     have HEQ : Hid (((a5 : Int) == (l.length : Int)) = true) := hid (by rw [beq_iff_eq]; omega)
     have hdl' : ds.length ≤ 1099511627776 := by omega
     have hlo' : ops.length ≤ 1099511627776 := by omega
     have HOI := hid (Q4 (t := t) HJ.out.ids HJ.out.ops HJ.out.drow HOV.out (JB HQ1.out).2 (Js HQ3.out).2)
     have HGL : Hid (Glob w5) := hid (HG.out.keep (HJ.out.but.below (Nat.le_of_lt HZ.out.low) fun k hk e => by omega) HGN.out)
     have hr0 : r5 = [] := by rw [HR5.out]; exact List.drop_eq_nil_of_le (by omega)
     refine tk 9 (.bool true) rfl (fun w' hw' => uC _ _ _ rfl rfl rfl HEQ.out) ?_
     go_frame
     refine tw 10 (.bool true) ?_
     go_frame
     refine tl 11 (.agg [.int .u8 1, .int .i64 (t : Int), .slice Ad ds.length cd, .string au, .slice Ao ops.length co, .slice none 0 0, .slice none 0 0, .string kc, .string kc, .int .i64 0].toArray) rfl hF16 (fun w' hw' => k9 30 _ rfl (p := ⟨zo, 0, none⟩) rfl (qV w' _ _ _ [.int .u8 1, .int .i64 (t : Int), .slice Ad ds.length cd, .string au, .slice Ao ops.length co, .slice none 0 0, .slice none 0 0, .string kc, .string kc, .int .i64 0] _ hw'.2.2.2 Tryz.underlying30 rfl (by kernel_rfl))) ?_
     go_frame
     refine ta 12 ?_
     refine tc #[.agg [.int .u8 1, .int .i64 (t : Int), .slice Ad ds.length cd, .string au, .slice Ao ops.length co, .slice none 0 0, .slice none 0 0, .string kc, .string kc, .int .i64 0].toArray] hE6 rfl ?_
     refine (Jh (1, ((t : Int), ds, au, ops), ju) _ w5.heap.size w5.drew (HOI.out.keep (qD w5.heap.size w5)) (qD w5.heap.size w5).size hdl' hlo' (show (0 : Nat) ≤ 1099511627776 by omega) (show (0 : Nat) ≤ 1099511627776 by omega) (HGL.out.next (qD w5.heap.size w5))).mono ?_
     rintro e w6 ⟨hb6, rfl⟩
     rcases Bool.eq_false_or_eq_true (kD (1, ((t : Int), ds, au, ops), ju)) with hrb | hrb
     ·
      have HRB : Hid (kD (1, ((t : Int), ds, au, ops), ju) = true) := hid hrb
      have HRY : Hid (zk l = some (1, ((t : Int), ds, au, ops), ju)) := hid (by rw [HRS2.out, if_pos ⟨hr0, hrb⟩])
      clear hrb hr0
      rw [HRB.out]
      have hb56 := (qD w5.heap.size w5).trans hb6
      have HFq := HFK.out w6 hb56
      refine ⟨_, rfl, fun _ _ => HFq, ?_⟩
      go_frame
      refine tw 13 (.bool true) ?_
      go_frame
      refine ta 14 ?_
      refine tc #[.bool true] hE5 rfl ?_
      refine (K5 _).mono ?_
      rintro e w9 ⟨rfl, rfl⟩
      refine ⟨_, rfl, fun _ _ => HFq, ?_⟩
      go_frame
      refine kv (by kernel_rfl) ?_ _
      have HB56 := hid hb56
      have HF6 := hid HFq.2.2.2
      clear hb56 hb6 HFq hF16
      go_wp2_with (first
        | (with_reducible refine k7 ?_
           refine k6 (by rfl) (k9 30 _ rfl (p := ⟨zo, 0, none⟩) rfl (qV _ _ _ _ [.int .u8 1, .int .i64 (t : Int), .slice Ad ds.length cd, .string au, .slice Ao ops.length co, .slice none 0 0, .slice none 0 0, .string kc, .string kc, .int .i64 0] _ HF6.out Tryz.underlying30 rfl (by kernel_rfl))) ?_)
        | (with_reducible refine ks ?_
           refine km (by rfl) 30 _ _ rfl zo 0 [] [.int .u8 1, .int .i64 (t : Int), .slice Ad ds.length cd, .string au, .slice Ao ops.length co, .slice none 0 0, .slice none 0 0, .string kc, .string kc, .int .i64 0] [] [.int .u8 1, .int .i64 (t : Int), .slice Ad ds.length cd, .string au, .slice Ao ops.length co, .slice none 0 0, .slice none 0 0, .string kc, .string kc, .int .i64 0] 30 (.agg [.int .u8 1, .int .i64 (t : Int), .slice Ad ds.length cd, .string au, .slice Ao ops.length co, .slice none 0 0, .slice none 0 0, .string kc, .string kc, .int .i64 0].toArray) rfl rfl rfl rfl ((HB56.out.block zo (qX HOB.out)).trans HOB.out) rfl (by kernel_rfl) (by intro u hu; simp only [List.mem_cons, List.not_mem_nil, or_false] at hu; rcases hu with rfl | rfl | rfl | rfl | rfl | rfl | rfl | rfl | rfl | rfl <;> rfl) ?_
           intro w7 hb7 hy7 hs7
           have HB7 := hid hb7; have HY7 := hid hy7
           clear hb7 hy7 hs7))
      refine bodyPost_end (jL Tryz.results24 _ _ rfl (qV _ zo 0 30 [.int .u8 1, .int .i64 (t : Int), .slice Ad ds.length cd, .string au, .slice Ao ops.length co, .slice none 0 0, .slice none 0 0, .string kc, .string kc, .int .i64 0] _ (fun j u hj => by rw [qZ]; exact (k5 HY7.out j).trans hj) Tryz.underlying30 rfl (by kernel_rfl))) rfl ?_
      have hd6 := (But.of_below (X := NoB) HB56.out).own HJ.out.drow fun _ _ q => q
      have ho6 := (But.of_below (X := NoB) HB56.out).own HOV.out fun _ _ q => q
      have hz6 := (HB56.out.block zo (qX HOB.out)).trans HOB.out
      exact ObjGives.yes HRY.out rfl ((HJ.out.but.andBelow HB56.out).trans HB7.out fun i hi e => by have h1 := HZ.out.zz; omega) (Q4 (t := t) HJ.out.ids HJ.out.ops (HB7.out.own hd6 fun k hk e => jt hd6 hz6 (by decide) (by rw [hk, e])) (HB7.out.own ho6 fun k hk e => jt ho6 hz6 (by decide) (by rw [hk, e])) (JB HQ1.out).2 (Js HQ3.out).2)
     ·
      have HRB : Hid (kD (1, ((t : Int), ds, au, ops), ju) = false) := hid hrb
      have HRN : Hid (zk l = none) := hid (by rw [HRS2.out, if_neg]; rintro ⟨_, h2⟩; rw [hrb] at h2; cases h2)
      clear hrb hr0
      rw [HRB.out]
      have hb56 := (qD w5.heap.size w5).trans hb6
      have HFq := HFK.out w6 hb56
      refine ⟨_, rfl, fun _ _ => HFq, ?_⟩
      go_frame
      refine tw 13 (.bool false) ?_
      go_frame
      refine ta 14 ?_
      refine tp #[.bool false] hE5 rfl ?_
      refine (Ks _).mono ?_
      rintro e w9 ⟨rfl, rfl⟩
      exact ⟨rfl, rfl, ObjGives.no HRN.out rfl (HJ.out.but.andBelow hb56)⟩
   ·
    by_cases h75 : k = 75
    ·
     subst h75
     have HRS := hid (readS_cm (l := l) HP.out)
     go_upto_region 13 with (first
       | (go_at_call 50; refine (JI g b off c l 0 W1 HST.out.rd hl).mono ?_; rintro e W2 hgv
          obtain ⟨v, a1, rfl, hle, hr1, hrd1, hbt1, rfl⟩ := hgv.ok HP.out
          have HST2 := hid (HST.out.read HZ.out hrd1 hbt1)
          have HR1 := hid hr1
          clear hgv hle hr1 hrd1 hbt1 HST c0)
       | (with_reducible refine ks ?_
          refine km (by rfl) 5 _ _ rfl zo 0 [] [.int .u8 0] [.int .i64 0, .slice none 0 0, .string kc, .slice none 0 0, .slice none 0 0, .slice none 0 0, .string kc, .string kc, .int .i64 0] [.int .u8 2] 30 (.int .u8 2) rfl rfl rfl rfl HST2.out.obj rfl (by kernel_rfl) (by intro u hu; rw [List.mem_singleton.1 hu]; rfl) ?_
          intro X1 hbs hys hss
          have HST3 : Hid (ObjSt w g b off c l rb zo a1 [.int .u8 2, .int .i64 0, .slice none 0 0, .string kc, .slice none 0 0, .slice none 0 0, .slice none 0 0, .string kc, .string kc, .int .i64 0] X1) := hid (HST2.out.put HZ.out hbs hys)
          clear hbs hys hss))
     have HST1 := HST3
     have c0 : X1.cell? ⟨rb, 0, none⟩ = some (.pointer (some ⟨g, 0, none⟩)) := k5 HST1.out.rbox 0
     rcases hpx : kY 2 pId r1 with _ | ⟨ps, r2⟩
     ·
      have HNO : Hid (zk l = none) := hid (by rw [HRS.out, pCm0  hpx])
      have HQ1 := hid hpx
      clear hpx
      have HPX : Hid (kY 2 pId (l.drop a1) = none) := hid (by rw [← HR1.out]; exact HQ1.out)
      go_wp2_with (first
        | (go_at_call 52; refine (Zt g b off c l a1 X1 HST1.out.rd hl 2 (by decide)).mono ?_; rintro e wx hgv
           obtain ⟨rfl, hbt⟩ := hgv.bad HPX.out))
      exact ⟨rfl, ObjGives.no HNO.out rfl (HST1.out.but.trans hbt fun _ _ q => q)⟩
     have HQ1 := hid hpx
     clear hpx
     have HPX : Hid (kY 2 pId (l.drop a1) = some (ps, r2)) := hid (by rw [← HR1.out]; exact HQ1.out)
     go_upto_region 14 with (first
       | (go_at_call 52; refine (Zt g b off c l a1 X1 HST1.out.rd hl 2 (by decide)).mono ?_; rintro e wx hgv
          obtain ⟨vv, a2, rfl, hle, hr, hrd, hbt, hio, hiow⟩ := hgv.ok HPX.out
          obtain ⟨Ap, cp, rfl⟩ := kg hiow
          have HIP := hid hio; have HR2 := hid hr
          have HSTr1 := hid (HST1.out.read HZ.out hrd hbt)
          have HPWr := hid (Zu hiow HST1.out.but.size)
          clear hgv hio hiow hle hr hrd hbt c0)
       | (with_reducible refine ks ?_
          refine km (by rfl) 23 _ _ rfl zo 5 [.int .u8 2, .int .i64 0, .slice none 0 0, .string kc, .slice none 0 0] [.slice none 0 0] [.slice none 0 0, .string kc, .string kc, .int .i64 0] [.slice Ap ps.length cp] 30 (.slice Ap ps.length cp) rfl rfl rfl rfl HSTr1.out.obj rfl (by kernel_rfl) (by intro u hu; rw [List.mem_singleton.1 hu]; rfl) ?_
          intro X2 hbs hys hss
          have HST2 : Hid (ObjSt w g b off c l rb zo a2 [.int .u8 2, .int .i64 0, .slice none 0 0, .string kc, .slice none 0 0, .slice Ap ps.length cp, .slice none 0 0, .string kc, .string kc, .int .i64 0] X2) := hid (HSTr1.out.put HZ.out hbs hys)
          have HPW2 : Hid (X2.ownsRow w.heap.size 47 32 (.slice Ap ps.length cp) ps.length (kr ps)) := hid (hbs.own HPWr.out fun k hk e => jt HPWr.out HSTr1.out.obj (by decide) (by rw [hk, e]))
          clear hbs hys hss))
     have c0 : X2.cell? ⟨rb, 0, none⟩ = some (.pointer (some ⟨g, 0, none⟩)) := k5 HST2.out.rbox 0
     rcases hpx : kY 4096 pId r2 with _ | ⟨cs, r3⟩
     ·
      have HNO : Hid (zk l = none) := hid (by rw [HRS.out, pCm1 HQ1.out hpx])
      have HQ2 := hid hpx
      clear hpx
      have HPX : Hid (kY 4096 pId (l.drop a2) = none) := hid (by rw [← HR2.out]; exact HQ2.out)
      go_wp2_with (first
        | (go_at_call 52; refine (Zt g b off c l a2 X2 HST2.out.rd hl 4096 (by decide)).mono ?_; rintro e wx hgv
           obtain ⟨rfl, hbt⟩ := hgv.bad HPX.out))
      exact ⟨rfl, ObjGives.no HNO.out rfl (HST2.out.but.trans hbt fun _ _ q => q)⟩
     have HQ2 := hid hpx
     clear hpx
     have HPX : Hid (kY 4096 pId (l.drop a2) = some (cs, r3)) := hid (by rw [← HR2.out]; exact HQ2.out)
     go_upto_region 15 with (first
       | (go_at_call 52; refine (Zt g b off c l a2 X2 HST2.out.rd hl 4096 (by decide)).mono ?_; rintro e wx hgv
          obtain ⟨vv, a3, rfl, hle, hr, hrd, hbt, hio, hiow⟩ := hgv.ok HPX.out
          obtain ⟨Ac, cc, rfl⟩ := kg hiow
          have HIQ := hid hio; have HR3 := hid hr
          have HSTr2 := hid (HST2.out.read HZ.out hrd hbt)
          have HQWr := hid (Zu hiow HST2.out.but.size)
          have HPWr2 := hid (hbt.own HPW2.out fun k hk e => by have h1 := (HPW2.out.lt k hk).1; have h2 := HZ.out.low; omega)
          clear hgv hio hiow hle hr hrd hbt c0)
       | (with_reducible refine ks ?_
          refine km (by rfl) 23 _ _ rfl zo 6 [.int .u8 2, .int .i64 0, .slice none 0 0, .string kc, .slice none 0 0, .slice Ap ps.length cp] [.slice none 0 0] [.string kc, .string kc, .int .i64 0] [.slice Ac cs.length cc] 30 (.slice Ac cs.length cc) rfl rfl rfl rfl HSTr2.out.obj rfl (by kernel_rfl) (by intro u hu; rw [List.mem_singleton.1 hu]; rfl) ?_
          intro X3 hbs hys hss
          have HST3 : Hid (ObjSt w g b off c l rb zo a3 [.int .u8 2, .int .i64 0, .slice none 0 0, .string kc, .slice none 0 0, .slice Ap ps.length cp, .slice Ac cs.length cc, .string kc, .string kc, .int .i64 0] X3) := hid (HSTr2.out.put HZ.out hbs hys)
          have HQW3 : Hid (X3.ownsRow w.heap.size 47 32 (.slice Ac cs.length cc) cs.length (kr cs)) := hid (hbs.own HQWr.out fun k hk e => jt HQWr.out HSTr2.out.obj (by decide) (by rw [hk, e]))
          have HPW3 : Hid (X3.ownsRow w.heap.size 47 32 (.slice Ap ps.length cp) ps.length (kr ps)) := hid (hbs.own HPWr2.out fun k hk e => jt HPWr2.out HSTr2.out.obj (by decide) (by rw [hk, e]))
          clear hbs hys hss))
     refine rN 15 (fun u => u.cell? ⟨rb, 0, none⟩ = some (.pointer (some ⟨g, 0, none⟩))) (k5 (HST3.out.keep (qD X3.heap.size X3)).rbox 0) fun hF15 => ?_
     refine tw 0 (.pointer (some ⟨zo, 5, none⟩)) ?_
     go_frame
     refine tw 1 (.pointer (some ⟨zo, 5, none⟩)) ?_
     go_frame
     refine tw 2 (.pointer (some ⟨zo, 5, none⟩)) ?_
     go_frame
     rcases hpx : jS r3 with _ | ⟨au, r4⟩
     ·
      have HNO : Hid (zk l = none) := hid (by rw [HRS.out, pCm2 HQ1.out HQ2.out hpx])
      have HQ3 := hid hpx
      clear hpx
      have HP3 : Hid (jS (l.drop a3) = none) := hid (by rw [← HR3.out]; exact HQ3.out)
      refine tl 3 (.pointer (some ⟨g, 0, none⟩)) rfl hF15 (fun w' hw' => l1 Tryz.underlying57 hw') ?_
      go_frame
      refine tl 5 (.pointer (some ⟨g, 0, none⟩)) rfl hF15 (fun w' hw' => l1 Tryz.underlying57 hw') ?_
      go_frame
      refine tl 7 (.pointer (some ⟨g, 0, none⟩)) rfl hF15 (fun w' hw' => l1 Tryz.underlying57 hw') ?_
      go_frame
      refine ta 4 ?_
      refine tp #[.pointer (some ⟨g, 0, none⟩)] hE3 rfl ?_
      refine (zu g b off c l a3 X3.drew (HST3.out.keep (qD X3.heap.size X3)).rd hl).mono ?_
      rintro e y4 hgv
      obtain ⟨rfl, hbt⟩ := hgv.bad HP3.out
      exact ⟨rfl, rfl, ObjGives.no HNO.out rfl ((HST3.out.keep (qD X3.heap.size X3)).but.trans hbt fun _ _ q => q)⟩
     have HQ3 := hid hpx
     clear hpx
     have HP3 : Hid (jS (l.drop a3) = some (au, r4)) := hid (by rw [← HR3.out]; exact HQ3.out)
     rcases hpx : jS r4 with _ | ⟨ms, r5⟩
     ·
      have HNO : Hid (zk l = none) := hid (by rw [HRS.out, pCm3 HQ1.out HQ2.out HQ3.out hpx])
      have HQ4 := hid hpx
      clear hpx
      refine tl 3 (.pointer (some ⟨g, 0, none⟩)) rfl hF15 (fun w' hw' => l1 Tryz.underlying57 hw') ?_
      go_frame
      refine tl 5 (.pointer (some ⟨g, 0, none⟩)) rfl hF15 (fun w' hw' => l1 Tryz.underlying57 hw') ?_
      go_frame
      refine tl 7 (.pointer (some ⟨g, 0, none⟩)) rfl hF15 (fun w' hw' => l1 Tryz.underlying57 hw') ?_
      go_frame
      refine ta 4 ?_
      refine tc #[.pointer (some ⟨g, 0, none⟩)] hE3 rfl ?_
      refine (zu g b off c l a3 X3.drew (HST3.out.keep (qD X3.heap.size X3)).rd hl).mono ?_
      rintro e y4 hgv
      obtain ⟨vv, a4, rfl, hle, hr, hrd, hbt, rfl⟩ := hgv.ok HP3.out
      have HR4 := hid hr
      have HSq4 := hid ((HST3.out.keep (qD X3.heap.size X3)).read HZ.out hrd hbt)
      have HPy4 : Hid (y4.ownsRow w.heap.size 47 32 (.slice Ap ps.length cp) ps.length (kr ps)) := hid (hbt.own ((But.of_below (X := NoB) (qD X3.heap.size X3)).own HPW3.out fun _ _ q => q) fun k hk e => by have h1 := (HPW3.out.lt k hk).1; have h2 := HZ.out.low; omega)
      have HQy4 : Hid (y4.ownsRow w.heap.size 47 32 (.slice Ac cs.length cc) cs.length (kr cs)) := hid (hbt.own ((But.of_below (X := NoB) (qD X3.heap.size X3)).own HQW3.out fun _ _ q => q) fun k hk e => by have h1 := (HQW3.out.lt k hk).1; have h2 := HZ.out.low; omega)
      have HP4 : Hid (jS (l.drop a4) = none) := hid (by rw [← HR4.out]; exact HQ4.out)
      have HFa4 : (fun u => u.cell? ⟨rb, 0, none⟩ = some (.pointer (some ⟨g, 0, none⟩))) y4 := k5 HSq4.out.rbox 0
      clear hgv hle hr hrd hbt
      refine ⟨_, rfl, fun _ _ => HFa4, ?_⟩
      go_frame
      refine ta 6 ?_
      refine tp #[.pointer (some ⟨g, 0, none⟩)] hE3 rfl ?_
      refine (zu g b off c l a4 y4 HSq4.out.rd hl).mono ?_
      rintro e y6 hgv
      obtain ⟨rfl, hbt⟩ := hgv.bad HP4.out
      exact ⟨rfl, rfl, ObjGives.no HNO.out rfl (HSq4.out.but.trans hbt fun _ _ q => q)⟩
     have HQ4 := hid hpx
     clear hpx
     rcases hpx : Kj r5 with _ | ⟨t, r6⟩
     ·
      have HNO : Hid (zk l = none) := hid (by rw [HRS.out, pCm4 HQ1.out HQ2.out HQ3.out HQ4.out hpx])
      have HQ5 := hid hpx
      clear hpx
      refine tl 3 (.pointer (some ⟨g, 0, none⟩)) rfl hF15 (fun w' hw' => l1 Tryz.underlying57 hw') ?_
      go_frame
      refine tl 5 (.pointer (some ⟨g, 0, none⟩)) rfl hF15 (fun w' hw' => l1 Tryz.underlying57 hw') ?_
      go_frame
      refine tl 7 (.pointer (some ⟨g, 0, none⟩)) rfl hF15 (fun w' hw' => l1 Tryz.underlying57 hw') ?_
      go_frame
      refine ta 4 ?_
      refine tc #[.pointer (some ⟨g, 0, none⟩)] hE3 rfl ?_
      refine (zu g b off c l a3 X3.drew (HST3.out.keep (qD X3.heap.size X3)).rd hl).mono ?_
      rintro e y4 hgv
      obtain ⟨vv, a4, rfl, hle, hr, hrd, hbt, rfl⟩ := hgv.ok HP3.out
      have HR4 := hid hr
      have HSq4 := hid ((HST3.out.keep (qD X3.heap.size X3)).read HZ.out hrd hbt)
      have HPy4 : Hid (y4.ownsRow w.heap.size 47 32 (.slice Ap ps.length cp) ps.length (kr ps)) := hid (hbt.own ((But.of_below (X := NoB) (qD X3.heap.size X3)).own HPW3.out fun _ _ q => q) fun k hk e => by have h1 := (HPW3.out.lt k hk).1; have h2 := HZ.out.low; omega)
      have HQy4 : Hid (y4.ownsRow w.heap.size 47 32 (.slice Ac cs.length cc) cs.length (kr cs)) := hid (hbt.own ((But.of_below (X := NoB) (qD X3.heap.size X3)).own HQW3.out fun _ _ q => q) fun k hk e => by have h1 := (HQW3.out.lt k hk).1; have h2 := HZ.out.low; omega)
      have HP4 : Hid (jS (l.drop a4) = some (ms, r5)) := hid (by rw [← HR4.out]; exact HQ4.out)
      have HFa4 : (fun u => u.cell? ⟨rb, 0, none⟩ = some (.pointer (some ⟨g, 0, none⟩))) y4 := k5 HSq4.out.rbox 0
      clear hgv hle hr hrd hbt
      refine ⟨_, rfl, fun _ _ => HFa4, ?_⟩
      go_frame
      refine ta 6 ?_
      refine tc #[.pointer (some ⟨g, 0, none⟩)] hE3 rfl ?_
      refine (zu g b off c l a4 y4 HSq4.out.rd hl).mono ?_
      rintro e y6 hgv
      obtain ⟨vv, a5, rfl, hle, hr, hrd, hbt, rfl⟩ := hgv.ok HP4.out
      have HR5 := hid hr
      have HSq6 := hid (HSq4.out.read HZ.out hrd hbt)
      have HPy6 : Hid (y6.ownsRow w.heap.size 47 32 (.slice Ap ps.length cp) ps.length (kr ps)) := hid (hbt.own HPy4.out fun k hk e => by have h1 := (HPW3.out.lt k hk).1; have h2 := HZ.out.low; omega)
      have HQy6 : Hid (y6.ownsRow w.heap.size 47 32 (.slice Ac cs.length cc) cs.length (kr cs)) := hid (hbt.own HQy4.out fun k hk e => by have h1 := (HQW3.out.lt k hk).1; have h2 := HZ.out.low; omega)
      have HP5 : Hid (Kj (l.drop a5) = none) := hid (by rw [← HR5.out]; exact HQ5.out)
      have HFa6 : (fun u => u.cell? ⟨rb, 0, none⟩ = some (.pointer (some ⟨g, 0, none⟩))) y6 := k5 HSq6.out.rbox 0
      clear hgv hle hr hrd hbt
      refine ⟨_, rfl, fun _ _ => HFa6, ?_⟩
      go_frame
      refine ta 8 ?_
      refine tp #[.pointer (some ⟨g, 0, none⟩)] hE1 rfl ?_
      refine (jC g b off c l a5 y6 HSq6.out.rd hl).mono ?_
      rintro e y8 hgv
      obtain ⟨rfl, hbt⟩ := hgv.bad HP5.out
      exact ⟨rfl, rfl, ObjGives.no HNO.out rfl (HSq6.out.but.trans hbt fun _ _ q => q)⟩
     have HQ5 := hid hpx
     clear hpx
     have HRS2 : Hid (zk l = if r6 = [] ∧ kD (2, jq, (ps, cs, au, ms, (t : Int))) = true then some (2, jq, (ps, cs, au, ms, (t : Int))) else none) := hid (by rw [HRS.out, pCm5 HQ1.out HQ2.out HQ3.out HQ4.out HQ5.out])
     refine tl 3 (.pointer (some ⟨g, 0, none⟩)) rfl hF15 (fun w' hw' => l1 Tryz.underlying57 hw') ?_
     go_frame
     refine tl 5 (.pointer (some ⟨g, 0, none⟩)) rfl hF15 (fun w' hw' => l1 Tryz.underlying57 hw') ?_
     go_frame
     refine tl 7 (.pointer (some ⟨g, 0, none⟩)) rfl hF15 (fun w' hw' => l1 Tryz.underlying57 hw') ?_
     go_frame
     refine ta 4 ?_
     refine tc #[.pointer (some ⟨g, 0, none⟩)] hE3 rfl ?_
     refine (zu g b off c l a3 X3.drew (HST3.out.keep (qD X3.heap.size X3)).rd hl).mono ?_
     rintro e y4 hgv
     obtain ⟨vv, a4, rfl, hle, hr, hrd, hbt, rfl⟩ := hgv.ok HP3.out
     have HR4 := hid hr
     have HSq4 := hid ((HST3.out.keep (qD X3.heap.size X3)).read HZ.out hrd hbt)
     have HPy4 : Hid (y4.ownsRow w.heap.size 47 32 (.slice Ap ps.length cp) ps.length (kr ps)) := hid (hbt.own ((But.of_below (X := NoB) (qD X3.heap.size X3)).own HPW3.out fun _ _ q => q) fun k hk e => by have h1 := (HPW3.out.lt k hk).1; have h2 := HZ.out.low; omega)
     have HQy4 : Hid (y4.ownsRow w.heap.size 47 32 (.slice Ac cs.length cc) cs.length (kr cs)) := hid (hbt.own ((But.of_below (X := NoB) (qD X3.heap.size X3)).own HQW3.out fun _ _ q => q) fun k hk e => by have h1 := (HQW3.out.lt k hk).1; have h2 := HZ.out.low; omega)
     have HP4 : Hid (jS (l.drop a4) = some (ms, r5)) := hid (by rw [← HR4.out]; exact HQ4.out)
     have HFa4 : (fun u => u.cell? ⟨rb, 0, none⟩ = some (.pointer (some ⟨g, 0, none⟩))) y4 := k5 HSq4.out.rbox 0
     clear hgv hle hr hrd hbt
     refine ⟨_, rfl, fun _ _ => HFa4, ?_⟩
     go_frame
     refine ta 6 ?_
     refine tc #[.pointer (some ⟨g, 0, none⟩)] hE3 rfl ?_
     refine (zu g b off c l a4 y4 HSq4.out.rd hl).mono ?_
     rintro e y6 hgv
     obtain ⟨vv, a5, rfl, hle, hr, hrd, hbt, rfl⟩ := hgv.ok HP4.out
     have HR5 := hid hr
     have HSq6 := hid (HSq4.out.read HZ.out hrd hbt)
     have HPy6 : Hid (y6.ownsRow w.heap.size 47 32 (.slice Ap ps.length cp) ps.length (kr ps)) := hid (hbt.own HPy4.out fun k hk e => by have h1 := (HPW3.out.lt k hk).1; have h2 := HZ.out.low; omega)
     have HQy6 : Hid (y6.ownsRow w.heap.size 47 32 (.slice Ac cs.length cc) cs.length (kr cs)) := hid (hbt.own HQy4.out fun k hk e => by have h1 := (HQW3.out.lt k hk).1; have h2 := HZ.out.low; omega)
     have HP5 : Hid (Kj (l.drop a5) = some (t, r6)) := hid (by rw [← HR5.out]; exact HQ5.out)
     have HFa6 : (fun u => u.cell? ⟨rb, 0, none⟩ = some (.pointer (some ⟨g, 0, none⟩))) y6 := k5 HSq6.out.rbox 0
     clear hgv hle hr hrd hbt
     refine ⟨_, rfl, fun _ _ => HFa6, ?_⟩
     go_frame
     refine ta 8 ?_
     refine tc #[.pointer (some ⟨g, 0, none⟩)] hE1 rfl ?_
     refine (jC g b off c l a5 y6 HSq6.out.rd hl).mono ?_
     rintro e y8 hgv
     obtain ⟨vv, a6, rfl, hle, hr, hrd, hbt, rfl⟩ := hgv.ok HP5.out
     have HR6 := hid hr
     have HSq8 := hid (HSq6.out.read HZ.out hrd hbt)
     have HPy8 : Hid (y8.ownsRow w.heap.size 47 32 (.slice Ap ps.length cp) ps.length (kr ps)) := hid (hbt.own HPy6.out fun k hk e => by have h1 := (HPW3.out.lt k hk).1; have h2 := HZ.out.low; omega)
     have HQy8 : Hid (y8.ownsRow w.heap.size 47 32 (.slice Ac cs.length cc) cs.length (kr cs)) := hid (hbt.own HQy6.out fun k hk e => by have h1 := (HQW3.out.lt k hk).1; have h2 := HZ.out.low; omega)
     have HFa8 : (fun u => u.cell? ⟨rb, 0, none⟩ = some (.pointer (some ⟨g, 0, none⟩))) y8 := k5 HSq8.out.rbox 0
     clear hgv hle hr hrd hbt
     refine ⟨_, rfl, fun _ _ => HFa8, ?_⟩
     go_frame
     refine tw 9 (.pointer (some ⟨zo, 5, none⟩)) ?_
     go_frame
     refine tw 10 (.pointer (some ⟨zo, 7, none⟩)) ?_
     go_frame
     refine ta 11 ?_
     refine zf _ rfl (by kernel_rfl) 9 _ _ rfl zo 7 [.int .u8 2, .int .i64 0, .slice none 0 0, .string kc, .slice none 0 0, .slice Ap ps.length cp, .slice Ac cs.length cc] [.string kc] [.string kc, .int .i64 0] [.string au] 30 (.string au) rfl rfl rfl rfl HSq8.out.obj rfl (by kernel_rfl) (by intro u hu; rw [List.mem_singleton.1 hu]; rfl) ?_
     intro y11 hbs hys hss
     have HSq11 : Hid (ObjSt w g b off c l rb zo a6 [.int .u8 2, .int .i64 0, .slice none 0 0, .string kc, .slice none 0 0, .slice Ap ps.length cp, .slice Ac cs.length cc, .string au, .string kc, .int .i64 0] y11) := hid (HSq8.out.put HZ.out hbs hys)
     have HPy11 : Hid (y11.ownsRow w.heap.size 47 32 (.slice Ap ps.length cp) ps.length (kr ps)) := hid (hbs.own HPy8.out fun k hk e => jt HPy8.out HSq8.out.obj (by decide) (by rw [hk, e]))
     have HQy11 : Hid (y11.ownsRow w.heap.size 47 32 (.slice Ac cs.length cc) cs.length (kr cs)) := hid (hbs.own HQy8.out fun k hk e => jt HQy8.out HSq8.out.obj (by decide) (by rw [hk, e]))
     clear hbs hys hss
     have HFa11 : (fun u => u.cell? ⟨rb, 0, none⟩ = some (.pointer (some ⟨g, 0, none⟩))) y11 := k5 HSq11.out.rbox 0
     refine ⟨fun _ _ => HFa11, ?_⟩
     go_frame
     refine tw 12 (.pointer (some ⟨zo, 5, none⟩)) ?_
     go_frame
     refine tw 13 (.pointer (some ⟨zo, 8, none⟩)) ?_
     go_frame
     refine ta 14 ?_
     refine zf _ rfl (by kernel_rfl) 9 _ _ rfl zo 8 [.int .u8 2, .int .i64 0, .slice none 0 0, .string kc, .slice none 0 0, .slice Ap ps.length cp, .slice Ac cs.length cc, .string au] [.string kc] [.int .i64 0] [.string ms] 30 (.string ms) rfl rfl rfl rfl HSq11.out.obj rfl (by kernel_rfl) (by intro u hu; rw [List.mem_singleton.1 hu]; rfl) ?_
     intro y14 hbs hys hss
     have HSq14 : Hid (ObjSt w g b off c l rb zo a6 [.int .u8 2, .int .i64 0, .slice none 0 0, .string kc, .slice none 0 0, .slice Ap ps.length cp, .slice Ac cs.length cc, .string au, .string ms, .int .i64 0] y14) := hid (HSq11.out.put HZ.out hbs hys)
     have HPy14 : Hid (y14.ownsRow w.heap.size 47 32 (.slice Ap ps.length cp) ps.length (kr ps)) := hid (hbs.own HPy11.out fun k hk e => jt HPy11.out HSq11.out.obj (by decide) (by rw [hk, e]))
     have HQy14 : Hid (y14.ownsRow w.heap.size 47 32 (.slice Ac cs.length cc) cs.length (kr cs)) := hid (hbs.own HQy11.out fun k hk e => jt HQy11.out HSq11.out.obj (by decide) (by rw [hk, e]))
     clear hbs hys hss
     have HFa14 : (fun u => u.cell? ⟨rb, 0, none⟩ = some (.pointer (some ⟨g, 0, none⟩))) y14 := k5 HSq14.out.rbox 0
     refine ⟨fun _ _ => HFa14, ?_⟩
     go_frame
     refine tw 15 (.pointer (some ⟨zo, 5, none⟩)) ?_
     go_frame
     refine tw 16 (.pointer (some ⟨zo, 9, none⟩)) ?_
     go_frame
     refine ta 17 ?_
     refine zf _ rfl (by kernel_rfl) 3 _ _ rfl zo 9 [.int .u8 2, .int .i64 0, .slice none 0 0, .string kc, .slice none 0 0, .slice Ap ps.length cp, .slice Ac cs.length cc, .string au, .string ms] [.int .i64 0] [] [.int .i64 (t : Int)] 30 (.int .i64 (t : Int)) rfl rfl rfl rfl HSq14.out.obj rfl (by kernel_rfl) (by intro u hu; rw [List.mem_singleton.1 hu]; rfl) ?_
     intro y17 hbs hys hss
     have HSq17 : Hid (ObjSt w g b off c l rb zo a6 [.int .u8 2, .int .i64 0, .slice none 0 0, .string kc, .slice none 0 0, .slice Ap ps.length cp, .slice Ac cs.length cc, .string au, .string ms, .int .i64 (t : Int)] y17) := hid (HSq14.out.put HZ.out hbs hys)
     have HPy17 : Hid (y17.ownsRow w.heap.size 47 32 (.slice Ap ps.length cp) ps.length (kr ps)) := hid (hbs.own HPy14.out fun k hk e => jt HPy14.out HSq14.out.obj (by decide) (by rw [hk, e]))
     have HQy17 : Hid (y17.ownsRow w.heap.size 47 32 (.slice Ac cs.length cc) cs.length (kr cs)) := hid (hbs.own HQy14.out fun k hk e => jt HQy14.out HSq14.out.obj (by decide) (by rw [hk, e]))
     clear hbs hys hss
     refine ⟨fun h => absurd h (by decide), ?_⟩
     go_frame
     refine kv (by kernel_rfl) ?_ _
     have HST6 := HSq17; have HPW6 := HPy17; have HQW6 := HQy17
     obtain ⟨w5, hw5⟩ : ∃ u : World, u = y17 := ⟨_, rfl⟩
     subst hw5
     go_upto_region 16 with fail
     have hle := HST6.out.rd.le
     have HOB := hid HST6.out.obj
     have HFK := hid (fun (u : World) (hu : Below w5.heap.size w5 u) => (show (fun u => u.cell? ⟨rb, 0, none⟩ = some (.pointer (some ⟨g, 0, none⟩)) ∧ u.cell? ⟨g, 0, none⟩ = some (.slice (some ⟨b, off, none⟩) l.length c) ∧ u.cell? ⟨g, 1, none⟩ = some (.int .i64 (a6 : Int)) ∧ u.rangeAt zo 0 [.int .u8 2, .int .i64 0, .slice none 0 0, .string kc, .slice none 0 0, .slice Ap ps.length cp, .slice Ac cs.length cc, .string au, .string ms, .int .i64 (t : Int)]) u from
       ⟨(hu.cell (qX HST6.out.rbox)).trans (k5 HST6.out.rbox 0), (hu.cell HST6.out.rd.lt).trans (k5 (cs := [.slice (some ⟨b, off, none⟩) l.length c, .int .i64 (a6 : Int)]) HST6.out.rd.box 0), (hu.cell HST6.out.rd.lt).trans (k5 (cs := [.slice (some ⟨b, off, none⟩) l.length c, .int .i64 (a6 : Int)]) HST6.out.rd.box 1), fun j v hj => by rw [qZ]; exact (hu.cell (p := ⟨zo, j, none⟩) (qX HOB.out)).trans ((k5 HOB.out j).trans hj)⟩))
     refine rN 15 (fun u => u.cell? ⟨rb, 0, none⟩ = some (.pointer (some ⟨g, 0, none⟩)) ∧ u.cell? ⟨g, 0, none⟩ = some (.slice (some ⟨b, off, none⟩) l.length c) ∧ u.cell? ⟨g, 1, none⟩ = some (.int .i64 (a6 : Int)) ∧ u.rangeAt zo 0 [.int .u8 2, .int .i64 0, .slice none 0 0, .string kc, .slice none 0 0, .slice Ap ps.length cp, .slice Ac cs.length cc, .string au, .string ms, .int .i64 (t : Int)]) (HFK.out _ (qD w5.heap.size w5)) fun hF16 => ?_
     refine tl 0 (.pointer (some ⟨g, 0, none⟩)) rfl hF16 (fun w' hw' => l1 Tryz.underlying57 hw'.1) ?_
     go_frame
     refine tw 1 (.pointer (some ⟨g, 0, none⟩)) ?_
     go_frame
     refine tw 2 (.pointer (some ⟨g, 1, none⟩)) ?_
     go_frame
     refine tl 3 (.int .i64 (a6 : Int)) rfl hF16 (fun w' hw' => l1 Tryz.underlying3 hw'.2.2.1) ?_
     go_frame
     refine tl 4 (.pointer (some ⟨g, 0, none⟩)) rfl hF16 (fun w' hw' => l1 Tryz.underlying57 hw'.1) ?_
     go_frame
     refine tw 5 (.pointer (some ⟨g, 0, none⟩)) ?_
     go_frame
     refine tw 6 (.pointer (some ⟨g, 0, none⟩)) ?_
     go_frame
     refine tl 7 (.slice (some ⟨b, off, none⟩) l.length c) rfl hF16 (fun w' hw' => l1 Tryz.underlying22 hw'.2.1) ?_
     go_frame
     refine tk 8 (.int .i64 (l.length : Int)) rfl (fun w' hw' => Uw 22 _ rfl rfl Tryz.underlying22) ?_
     go_frame
     rcases (by omega : a6 < l.length ∨ a6 = l.length) with hq | hq
     ·
      have HEQ : Hid (((a6 : Int) == (l.length : Int)) = false) := hid (by rw [beq_eq_false_iff_ne]; omega)
      have HRN : Hid (zk l = none) := hid (by rw [HRS2.out, if_neg]; rintro ⟨h1, _⟩; rw [HR6.out] at h1; have h2 := congrArg List.length h1; rw [List.length_drop] at h2; simp at h2; omega)
      refine tk 9 (.bool false) rfl (fun w' hw' => uC _ _ _ rfl rfl rfl HEQ.out) ?_
      go_frame
      refine tw 10 (.bool false) ?_
      go_frame
      refine tn 11 ?_
      go_frame
      refine tn 12 ?_
      go_frame
      refine tw 13 (.bool false) ?_
      go_frame
      refine ta 14 ?_
      refine tp #[.bool false] hE5 rfl ?_
      refine (Ks _).mono ?_
      rintro e w9 ⟨rfl, rfl⟩
      exact ⟨rfl, rfl, ObjGives.no HRN.out rfl (HST6.out.but.trans (But.refl (fun k => k = g) w5).drew fun _ _ q => q)⟩
     ·
      have HEQ : Hid (((a6 : Int) == (l.length : Int)) = true) := hid (by rw [beq_iff_eq]; omega)
      have hdl' : ps.length ≤ 1099511627776 := qT (ZG HQ1.out) (by omega)
      have hlo' : cs.length ≤ 1099511627776 := qT (ZG HQ2.out) (by omega)
      have HOI := hid (Q3 (t := t) HIP.out HIQ.out HPW6.out HQW6.out (JB HQ5.out).2 (Js HQ3.out).2 (Js HQ4.out).2)
      have HGL : Hid (Glob w5) := hid (HG.out.keep (HST6.out.but.below (Nat.le_of_lt HZ.out.low) fun k hk e => by omega) HGN.out)
      have hr0 : r6 = [] := by rw [HR6.out]; exact List.drop_eq_nil_of_le (by omega)
      refine tk 9 (.bool true) rfl (fun w' hw' => uC _ _ _ rfl rfl rfl HEQ.out) ?_
      go_frame
      refine tw 10 (.bool true) ?_
      go_frame
      refine tl 11 (.agg [.int .u8 2, .int .i64 0, .slice none 0 0, .string kc, .slice none 0 0, .slice Ap ps.length cp, .slice Ac cs.length cc, .string au, .string ms, .int .i64 (t : Int)].toArray) rfl hF16 (fun w' hw' => k9 30 _ rfl (p := ⟨zo, 0, none⟩) rfl (qV w' _ _ _ [.int .u8 2, .int .i64 0, .slice none 0 0, .string kc, .slice none 0 0, .slice Ap ps.length cp, .slice Ac cs.length cc, .string au, .string ms, .int .i64 (t : Int)] _ hw'.2.2.2 Tryz.underlying30 rfl (by kernel_rfl))) ?_
      go_frame
      refine ta 12 ?_
      refine tc #[.agg [.int .u8 2, .int .i64 0, .slice none 0 0, .string kc, .slice none 0 0, .slice Ap ps.length cp, .slice Ac cs.length cc, .string au, .string ms, .int .i64 (t : Int)].toArray] hE6 rfl ?_
      refine (Jh (2, jq, (ps, cs, au, ms, (t : Int))) _ w5.heap.size w5.drew (HOI.out.keep (qD w5.heap.size w5)) (qD w5.heap.size w5).size (show (0 : Nat) ≤ 1099511627776 by omega) (show (0 : Nat) ≤ 1099511627776 by omega) hdl' hlo' (HGL.out.next (qD w5.heap.size w5))).mono ?_
      rintro e w6 ⟨hb6, rfl⟩
      rcases Bool.eq_false_or_eq_true (kD (2, jq, (ps, cs, au, ms, (t : Int)))) with hrb | hrb
      ·
       have HRB : Hid (kD (2, jq, (ps, cs, au, ms, (t : Int))) = true) := hid hrb
       have HRY : Hid (zk l = some (2, jq, (ps, cs, au, ms, (t : Int)))) := hid (by rw [HRS2.out, if_pos ⟨hr0, hrb⟩])
       clear hrb hr0
       rw [HRB.out]
       have hb56 := (qD w5.heap.size w5).trans hb6
       have HFq := HFK.out w6 hb56
       refine ⟨_, rfl, fun _ _ => HFq, ?_⟩
       go_frame
       refine tw 13 (.bool true) ?_
       go_frame
       refine ta 14 ?_
       refine tc #[.bool true] hE5 rfl ?_
       refine (K5 _).mono ?_
       rintro e w9 ⟨rfl, rfl⟩
       refine ⟨_, rfl, fun _ _ => HFq, ?_⟩
       go_frame
       refine kv (by kernel_rfl) ?_ _
       have HB56 := hid hb56
       have HF6 := hid HFq.2.2.2
       clear hb56 hb6 HFq hF16
       go_wp2_with (first
         | (with_reducible refine k7 ?_
            refine k6 (by rfl) (k9 30 _ rfl (p := ⟨zo, 0, none⟩) rfl (qV _ _ _ _ [.int .u8 2, .int .i64 0, .slice none 0 0, .string kc, .slice none 0 0, .slice Ap ps.length cp, .slice Ac cs.length cc, .string au, .string ms, .int .i64 (t : Int)] _ HF6.out Tryz.underlying30 rfl (by kernel_rfl))) ?_)
         | (with_reducible refine ks ?_
            refine km (by rfl) 30 _ _ rfl zo 0 [] [.int .u8 2, .int .i64 0, .slice none 0 0, .string kc, .slice none 0 0, .slice Ap ps.length cp, .slice Ac cs.length cc, .string au, .string ms, .int .i64 (t : Int)] [] [.int .u8 2, .int .i64 0, .slice none 0 0, .string kc, .slice none 0 0, .slice Ap ps.length cp, .slice Ac cs.length cc, .string au, .string ms, .int .i64 (t : Int)] 30 (.agg [.int .u8 2, .int .i64 0, .slice none 0 0, .string kc, .slice none 0 0, .slice Ap ps.length cp, .slice Ac cs.length cc, .string au, .string ms, .int .i64 (t : Int)].toArray) rfl rfl rfl rfl ((HB56.out.block zo (qX HOB.out)).trans HOB.out) rfl (by kernel_rfl) (by intro u hu; simp only [List.mem_cons, List.not_mem_nil, or_false] at hu; rcases hu with rfl | rfl | rfl | rfl | rfl | rfl | rfl | rfl | rfl | rfl <;> rfl) ?_
            intro w7 hb7 hy7 hs7
            have HB7 := hid hb7; have HY7 := hid hy7
            clear hb7 hy7 hs7))
       refine bodyPost_end (jL Tryz.results24 _ _ rfl (qV _ zo 0 30 [.int .u8 2, .int .i64 0, .slice none 0 0, .string kc, .slice none 0 0, .slice Ap ps.length cp, .slice Ac cs.length cc, .string au, .string ms, .int .i64 (t : Int)] _ (fun j u hj => by rw [qZ]; exact (k5 HY7.out j).trans hj) Tryz.underlying30 rfl (by kernel_rfl))) rfl ?_
       have hd6 := (But.of_below (X := NoB) HB56.out).own HPW6.out fun _ _ q => q
       have ho6 := (But.of_below (X := NoB) HB56.out).own HQW6.out fun _ _ q => q
       have hz6 := (HB56.out.block zo (qX HOB.out)).trans HOB.out
       exact ObjGives.yes HRY.out rfl ((HST6.out.but.andBelow HB56.out).trans HB7.out fun i hi e => by have h1 := HZ.out.zz; omega) (Q3 (t := t) HIP.out HIQ.out (HB7.out.own hd6 fun k hk e => jt hd6 hz6 (by decide) (by rw [hk, e])) (HB7.out.own ho6 fun k hk e => jt ho6 hz6 (by decide) (by rw [hk, e])) (JB HQ5.out).2 (Js HQ3.out).2 (Js HQ4.out).2)
      ·
       have HRB : Hid (kD (2, jq, (ps, cs, au, ms, (t : Int))) = false) := hid hrb
       have HRN : Hid (zk l = none) := hid (by rw [HRS2.out, if_neg]; rintro ⟨_, h2⟩; rw [hrb] at h2; cases h2)
       clear hrb hr0
       rw [HRB.out]
       have hb56 := (qD w5.heap.size w5).trans hb6
       have HFq := HFK.out w6 hb56
       refine ⟨_, rfl, fun _ _ => HFq, ?_⟩
       go_frame
       refine tw 13 (.bool false) ?_
       go_frame
       refine ta 14 ?_
       refine tp #[.bool false] hE5 rfl ?_
       refine (Ks _).mono ?_
       rintro e w9 ⟨rfl, rfl⟩
       exact ⟨rfl, rfl, ObjGives.no HRN.out rfl (HST6.out.but.andBelow hb56)⟩
    ·
     have e1 : ((k.toNat : Int) == 67) = false := by
       rw [beq_eq_false_iff_ne]; intro h; exact h67 (by apply UInt8.toNat_inj.1; show k.toNat = 67; omega)
     have e2 : ((k.toNat : Int) == 75) = false := by
       rw [beq_eq_false_iff_ne]; intro h; exact h75 (by apply UInt8.toNat_inj.1; show k.toNat = 75; omega)
     have HRS : Hid (zk l = none) := hid (readS_kind HP.out h67 h75)
     clear h67 h75
     go_wp2_with (first
       | (go_at_call 50; refine (JI g b off c l 0 W1 HST.out.rd hl).mono ?_; rintro e W2 hgv
          obtain ⟨v, a1, rfl, hle, hr1, hrd1, hbt1, rfl⟩ := hgv.ok HP.out
          have HST2 := hid (HST.out.read HZ.out hrd1 hbt1)
          have HR1 := hid hr1
          clear hgv hle hr1 hrd1 hbt1 HST c0)
       | (go_at_call 57; refine (Ks _).mono ?_; rintro e w9 ⟨rfl, rfl⟩))
     exact ⟨rfl, ObjGives.no HRS.out rfl HST2.out.but⟩
end Go.Proofs.YthjaepmfkgejkaaGreatDoor
