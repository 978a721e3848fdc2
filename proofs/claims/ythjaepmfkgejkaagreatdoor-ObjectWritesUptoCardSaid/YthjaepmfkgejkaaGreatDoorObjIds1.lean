/-
  What reading one id does. Conditions: as IdsJ says.
-/
import Derived.Test.YthjaepmfkgejkaaGreatDoorMerged1
import Derived.Test.YthjaepmfkgejkaaGreatDoorMerged4
import Derived.Test.YthjaepmfkgejkaaGreatDoorMerged16
import Derived.Test.YthjaepmfkgejkaaGreatDoorMerged12
import Derived.Test.YthjaepmfkgejkaaGreatDoorMerged8
import Derived.Test.YthjaepmfkgejkaaGreatDoorMerged10
set_option linter.unusedVariables false
set_option linter.unusedSimpArgs false
set_option maxHeartbeats 4000000
set_option maxRecDepth 100000
namespace Go.Proofs.YthjaepmfkgejkaaGreatDoor
open Go.RowKit Go.Maps
def IdsJ (w0 : World) (g b off c : Nat) (l : List UInt8) (rb ob a : Nat) (xs : List (List UInt8)) (w : World) : Prop :=
  RdAt w g b off c l a ∧ w.heap[rb]? = some (.cells [Value.pointer (some ⟨g, 0, none⟩)].toArray 57 (0, 0)) ∧ w0.heap.size ≤ ob ∧ g < rb ∧ g < ob ∧ rb ≠ ob ∧ But (fun k => k = g) w0 w ∧ IdsOk xs ∧ ∃ v, w.heap[ob]? = some (.cells [v].toArray 23 (0, 0)) ∧ w.ownsRow w0.heap.size 47 32 v xs.length (kr xs)
theorem zg : (Tryz.prog.info? 47).map (fun i => (i.zero, i.size, i.bytes)) = some (some (.agg (idV zero32).toArray), 32, 32) := by kernel_rfl
theorem JV (w : World) : (zeroValue 47).run Tryz.prog w = .ok (.agg (idV zero32).toArray) w := by kernel_rfl
theorem JK {P : Program} {ρ : Operand → Value} {o : Oper} {w : World} (t : TypeId) (x : Operand) (ho : o.op = .buildSlice t 1 #[(0, x)]) (e : TypeId) (ht : P.underlying t = some (.slice e)) (z : Value) (size bytes : Nat) (hinf : (P.info? e).map (fun i => (i.zero, i.size, i.bytes)) = some (some z, size, bytes)) (hz1 : z.cells.size = size) (hsz : 0 < size) (hmax : size ≤ 16777216)
    (us : List Value) (hl : us.length = size) (hx : ρ x = .agg us.toArray) : (execOp ρ o).run P w = .ok (.value (.slice (some ⟨w.heap.size, 0, none⟩) 1 1)) (w.alloc (.cells us.toArray e)) := by
  have hrun := Jx w t e ht z size bytes hinf hz1 hsz [.agg us.toArray] (fun v hv => by rw [List.mem_singleton.1 hv]; exact hl) (by simp) (by simpa using hmax)
  simp only [List.flatMap_cons, List.flatMap_nil, List.append_nil] at hrun
  unfold execOp
  have h2 : (Instr.buildSlice t 1 #[(0, .agg us.toArray)]).run P w = .ok (.slice (some ⟨w.heap.size, 0, none⟩) 1 1) (w.alloc (.cells us.toArray e)) := hrun
  simp only [ho, List.map_toArray, List.map_cons, List.map_nil, hx, Sem.run_bind, h2, Result.andThen_ok, Sem.run_pure]
theorem jt {w : World} {base n sz k : Nat} {e T : TypeId} {v : Value} {xs : List Value} {cs : List Value} (h : w.ownsRow base e sz v n xs) (hk : w.heap[k]? = some (.cells cs.toArray T (0, 0))) (hne : e ≠ T) : v.ownBlock ≠ some k := by
  intro hv
  rcases h.2 with ⟨h0, _⟩ | ⟨g, cap, cur, h0, _, hh, _⟩
  · rw [h0] at hv; cases hv
  ·
   rw [h0] at hv
   have : g = k := by simpa [Value.ownBlock] using hv
   subst this
   rw [hk] at hh
   injection hh with hh
   injection hh with _ hh _
   exact hne hh.symm
theorem set1_heap {w : World} {k : Nat} {u v : Value} {T : TypeId} (hk : w.heap[k]? = some (.cells [u].toArray T (0, 0))) : (w.setCell ⟨k, 0, none⟩ v).heap[k]? = some (.cells [v].toArray T (0, 0)) := by
  simp [World.setCell, Array.getElem?_modify, hk]
theorem vA (xs : List (List UInt8)) (i : List UInt8) : kr (xs ++ [i]) = kr xs ++ idV i := by simp [kr]
theorem ids_put {w0 w wa w9 : World} {g b off c : Nat} {l : List UInt8} {rb ob a z : Nat} {xs : List (List UInt8)} {id : List UInt8} {v v9 : Value} (hrd : RdAt w g b off c l a) (hrb : w.heap[rb]? = some (.cells [Value.pointer (some ⟨g, 0, none⟩)].toArray 57 (0, 0))) (hob0 : w0.heap.size ≤ ob) (hgrb : g < rb) (hgob : g < ob) (hrbob : rb ≠ ob) (hbut : But (fun k => k = g) w0 w) (hg0 : g < w0.heap.size) (hxs : IdsOk xs)
    (hob : w.heap[ob]? = some (.cells [v].toArray 23 (0, 0))) (hov : w.ownsRow w0.heap.size 47 32 v xs.length (kr xs)) (hid : id.length = 32) (hba : Below w.heap.size w wa) (hz : w.heap.size ≤ z) (hz2 : z < wa.heap.size) (hzr : wa.rangeAt z 0 (idV id)) (hle : a + 32 ≤ l.length)
    (ho9 : w9.ownsRow w0.heap.size 47 32 v9 (xs.length + 1) (kr xs ++ idV id)) (hg9 : wa.grownBy w9 v.ownBlock) (hw9 : ur wa.heap.size v v9) :
    (w9.cell? ⟨rb, 0, none⟩ = some (.pointer (some ⟨g, 0, none⟩)) ∧ w9.rangeAt z 0 (idV id)) ∧ (w9.cell? ⟨ob, 0, none⟩ = some v ∧ w9.frozen? ⟨ob, 0, none⟩ = false) ∧ ((w9.setCell ⟨ob, 0, none⟩ v9).cell? ⟨rb, 0, none⟩ = some (.pointer (some ⟨g, 0, none⟩)) ∧ (w9.setCell ⟨ob, 0, none⟩ v9).rangeAt z 0 (idV id)) ∧
      (w9.setCell ⟨ob, 0, none⟩ v9).cell? ⟨g, 1, none⟩ = some (.int .i64 (a : Int)) ∧ (w9.setCell ⟨ob, 0, none⟩ v9).frozen? ⟨g, 1, none⟩ = false ∧ IdsJ w0 g b off c l rb ob (a + 32) (xs ++ [id]) ((w9.setCell ⟨ob, 0, none⟩ v9).setCell ⟨g, 1, none⟩ (.int .i64 ((a + 32 : Nat) : Int))) := by
  have n1 : v.ownBlock ≠ some rb := jt hov hrb (by decide)
  have n2 : v.ownBlock ≠ some ob := jt hov hob (by decide)
  have n3 : v.ownBlock ≠ some g := fun e => by have := (hov.lt g e).1; omega
  have n4 : v.ownBlock ≠ some z := fun e => by have := (hov.lt z e).2; omega
  have n5 : v.ownBlock ≠ some b := fun e => by have := (hov.lt b e).1; have := hrd.low; omega
  have B9 : But (fun k => v.ownBlock = some k) w w9 := (But.of_below hba).grown hg9 fun k hk _ => hk
  have lrb := (qX hrb)
  have lob := (qX hob)
  have hrb9 : w9.heap[rb]? = _ := (B9.block rb lrb n1).trans hrb
  have hob9 : w9.heap[ob]? = _ := (B9.block ob lob n2).trans hob
  have hrd9 : RdAt w9 g b off c l a := ⟨(B9.block g hrd.lt n3).trans hrd.box, hrd.le, hrd.cap, hrd.low, fun j hj => (B9.cell (Nat.lt_trans hrd.low hrd.lt) n5).trans (hrd.bytes j hj)⟩
  have hzr9 : w9.rangeAt z 0 (idV id) := fun j u hj => by
    have h1 := hzr j u hj
    unfold World.cell? at h1 ⊢
    rw [hg9.block z hz2 (fun e => n4 e.symm)]
    exact h1
  have C10 : But (fun k => k = ob) w9 (w9.setCell ⟨ob, 0, none⟩ v9) := But.setCell (X := fun k => k = ob) (But.refl _ _) (p := ⟨ob, 0, none⟩) (fun _ => rfl) v9
  have l9 := B9.size
  have hrd10 := hrd9.but C10 (fun k hk e => by omega)
  have hzob : z ≠ ob := by omega
  have lz9 : z < w9.heap.size := qL hz2 hg9.size
  obtain ⟨hrd11, C11⟩ := hrd10.move hle
  have hne9 : v9.ownBlock ≠ some ob := jt ho9 hob9 (by decide)
  have hne9g : v9.ownBlock ≠ some g := fun e => by have := (ho9.lt g e).1; omega
  have o10 := C10.own ho9 (fun k hk e => hne9 (by rw [hk, e]))
  have o11 := C11.own o10 (fun k hk e => hne9g (by rw [hk, e]))
  have B11 : But (fun k => k = g) w0 ((w9.setCell ⟨ob, 0, none⟩ v9).setCell ⟨g, 1, none⟩ (.int .i64 ((a + 32 : Nat) : Int))) :=
    (((hbut.trans B9 fun i hi e => by have := (hov.lt i e).1; omega).trans C10 fun i hi e => by omega).trans C11 fun _ _ q => q)
  refine ⟨⟨k5 hrb9 0, hzr9⟩, ⟨k5 hob9 0, by simp [World.frozen?, hob9]⟩, ⟨?_, fun j u hj => (C10.cell lz9 hzob).trans (hzr9 j u hj)⟩, k5 hrd10.box 1, hrd10.frozen 1, hrd11, ?_, hob0, hgrb, hgob, hrbob, B11, ?_, v9, ?_, ?_⟩
  · exact (C10.cell (qL lrb l9) hrbob).trans (k5 hrb9 0)
  · exact (C11.block rb (qL (qL lrb l9) C10.size) (by omega)).trans ((C10.block rb (qL lrb l9) hrbob).trans hrb9)
  ·
   intro i hi
   rcases List.mem_append.1 hi with q | q
   · exact hxs i q
   · rw [List.mem_singleton.1 q]; exact hid
  · exact (C11.block ob (qL (qL lob l9) C10.size) (by omega)).trans (set1_heap hob9)
  · rw [List.length_append, List.length_singleton, vA]
    exact o11
theorem rid_any (w0 : World) (g b off c : Nat) (l : List UInt8) (rb ob a : Nat) (xs : List (List UInt8)) (w : World) (hl : l.length ≤ 1099511627776) (hx : xs.length ≤ 1099511627775) (hg0 : g < w0.heap.size) (hJ : IdsJ w0 g b off c l rb ob a xs w) :
    Calls Tryz.prog 88 #[.pointer (some ⟨rb, 0, none⟩), .pointer (some ⟨ob, 0, none⟩)] w (UnoGives pId l (IdsJ w0 g b off c l rb ob) (But (fun k => k = g) w0) a xs) := by
  obtain ⟨hrd, hrb, hob0, hgrb, hgob, hrbob, hbut, hxs, v, hob, hov⟩ := hJ
  have HRD := Lib.hid hrd; have HRB := Lib.hid hrb; have HOB := Lib.hid hob; have HBUT := Lib.hid hbut; have HXS := Lib.hid hxs; have HOV := Lib.hid hov
  have hlrb := (qX hrb); have hlob := (qX hob)
  have HFK := Lib.hid (fun (u : World) (hu : Below w.heap.size w u) => (show u.cell? ⟨rb, 0, none⟩ = some (.pointer (some ⟨g, 0, none⟩)) ∧ u.cell? ⟨g, 0, none⟩ = some (.slice (some ⟨b, off, none⟩) l.length c) ∧ u.cell? ⟨g, 1, none⟩ = some (.int .i64 (a : Int)) from
    ⟨(hu.cell (p := ⟨rb, 0, none⟩) hlrb).trans (k5 hrb 0), (hu.cell (p := ⟨g, 0, none⟩) hrd.lt).trans (k5 hrd.box 0), (hu.cell (p := ⟨g, 1, none⟩) hrd.lt).trans (k5 hrd.box 1)⟩))
  have HBD := Lib.hid (show Below w.heap.size w w.drew from (qD _ _))
  have HF0 := Lib.hid (HFK.out _ HBD.out)
  have HGI := Lib.hid (fun (u : World) (hu : Below w.heap.size w u) => getId_any l b off c a u hl hrd.cap hrd.le (qL (Nat.lt_trans hrd.low hrd.lt) hu.size) (fun j hj => (hu.cell (p := ⟨b, off + j, none⟩) (Nat.lt_trans hrd.low hrd.lt)).trans (hrd.bytes j hj)))
  clear hrd hrb hob hbut hxs hov
  have hE1 := enE Tryz.func89 rfl
  rcases hg : ZE (l.drop a) with _ | id
  ·
   have HP : Hid (pId (l.drop a) = none) := Lib.hid (by
     unfold ZE at hg
     unfold pId
     split at hg
     · rename_i h; rw [if_pos h]
     · cases hg)
   have HGT := Lib.hid (fun (u : World) (e : Ending) (u2 : World) (h : JU l a u e u2) => (show Below u.heap.size u u2 ∧ ∃ q : Int, q ≠ 0 ∧ e = .returned (.tuple #[.agg (idV zero32).toArray, .int .i64 0, .int .i64 q]) by
     unfold JU at h; rw [hg] at h; exact h))
   have HID := Lib.hid (show zero32.length = 32 from rfl)
   have HLN := Lib.hid (show (idV zero32).length = (idV zero32).length from rfl)
   clear hg
   go_enter Tryz.func88, Tryz.ntmps88
   go_upto_region 0 with fail
   go_cut [2, 3, 4] from 5 to 28 (fun t2 t3 t4 wx => ∃ z, t2 = .pointer (some ⟨z, 0, none⟩) ∧ t3 = .int .i64 0 ∧ (∃ q : Int, q ≠ 0 ∧ t4 = .int .i64 q) ∧ w.heap.size ≤ z ∧ Hid (Below w.heap.size w wx) ∧ Hid (wx.heap[z]? = some (.cells (idV zero32).toArray 47 (0, 0))))
   case first =>
     refine rN 14 (fun u => u.cell? ⟨rb, 0, none⟩ = some (.pointer (some ⟨g, 0, none⟩)) ∧ u.cell? ⟨g, 0, none⟩ = some (.slice (some ⟨b, off, none⟩) l.length c) ∧ u.cell? ⟨g, 1, none⟩ = some (.int .i64 (a : Int))) (HF0.out) fun hF0 => ?_
     refine tl 0 (.pointer (some ⟨g, 0, none⟩)) rfl hF0 (fun w' hw' => l1 Tryz.underlying57 hw'.1) ?_
     go_frame
     refine tw 1 (.pointer (some ⟨g, 0, none⟩)) ?_
     go_frame
     refine tw 2 (.pointer (some ⟨g, 0, none⟩)) ?_
     go_frame
     refine tl 3 (.slice (some ⟨b, off, none⟩) l.length c) rfl hF0 (fun w' hw' => l1 Tryz.underlying22 hw'.2.1) ?_
     go_frame
     refine tl 4 (.pointer (some ⟨g, 0, none⟩)) rfl hF0 (fun w' hw' => l1 Tryz.underlying57 hw'.1) ?_
     go_frame
     refine tw 5 (.pointer (some ⟨g, 0, none⟩)) ?_
     go_frame
     refine tw 6 (.pointer (some ⟨g, 1, none⟩)) ?_
     go_frame
     refine tl 7 (.int .i64 (a : Int)) rfl hF0 (fun w' hw' => l1 Tryz.underlying3 hw'.2.2) ?_
     go_frame
     refine Kh (rs := [8, 13]) (by kernel_rfl) (by simp) ?_
     intro q' hq'
     simp only [List.mem_cons, List.not_mem_nil, or_false] at hq'
     rcases hq' with rfl | rfl
     ·
      refine tc #[.slice (some ⟨b, off, none⟩) l.length c, .int .i64 (a : Int)] hE1 rfl ?_
      refine (HGI.out (w.drew) HBD.out).mono ?_
      rintro e v1 hgi
      obtain ⟨hb1, q, hq, rfl⟩ := HGT.out _ e v1 hgi
      have hbv1 : Below w.heap.size w v1 := (HBD.out).trans (hb1.mono (HBD.out).size)
      clear hgi
      refine ⟨_, rfl, fun _ _ => HFK.out _ hbv1, ?_⟩
      go_frame
      refine tw 9 (.tuple #[(.agg (idV zero32).toArray), .int .i64 0, .int .i64 q]) ?_
      go_frame
      refine tw 10 (.agg (idV zero32).toArray) ?_
      go_frame
      refine tw 11 (.int .i64 0) ?_
      go_frame
      refine tw 12 (.int .i64 q) ?_
      go_frame
      refine ta 13 ?_
      refine jv _ rfl (by kernel_rfl) (ZP (cs := (idV zero32).toArray) rfl (JV _)) ?_
      have hba : Below w.heap.size w ((v1).alloc (.cells (idV zero32).toArray 47)) := (hbv1).alloc (hbv1).size _
      have hzc : ((v1).alloc (.cells (idV zero32).toArray 47)).heap[(v1).heap.size]? = some (.cells (idV zero32).toArray 47 (0, 0)) := heap_alloc_new _ _
      have hzw : w.heap.size ≤ (v1).heap.size := (hbv1).size
      refine ⟨fun _ _ => HFK.out _ hba, ?_⟩
      go_frame
      refine ta 14 ?_
      refine zD _ rfl (by kernel_rfl) (JH 47 _ _ rfl ((v1).heap.size) 0 [] (idV zero32) [] (idV zero32) 47 (.agg (idV zero32).toArray) rfl rfl rfl rfl (by simpa using hzc) HLN.out (by rw [k8, show zero32.length = 32 from HID.out]; exact kt) (ky _)) ?_
      have hbw : But (fun k => k = (v1).heap.size) ((v1).alloc (.cells (idV zero32).toArray 47)) (World.setCells ((v1).alloc (.cells (idV zero32).toArray 47)) ((v1).heap.size) ([] : List Value).length (idV zero32)) := zX (X := fun k => k = (v1).heap.size) rfl _ _ _
      have hzz : (World.setCells ((v1).alloc (.cells (idV zero32).toArray 47)) ((v1).heap.size) ([] : List Value).length (idV zero32)).heap[(v1).heap.size]? = some (.cells ([] ++ ((idV zero32) ++ [])).toArray 47 (0, 0)) := zI (idV zero32) [] (idV zero32) [] _ HLN.out (by simpa using hzc)
      have hbz : Below w.heap.size w (World.setCells ((v1).alloc (.cells (idV zero32).toArray 47)) ((v1).heap.size) ([] : List Value).length (idV zero32)) := (hba).trans (hbw.below (hba).size (fun k hk => by omega))
      have hz7 : w.heap.size ≤ (v1).heap.size := hzw
      refine ⟨fun h => absurd h (by decide), ?_⟩
      go_frame
      refine tw 15 (.int .i64 0) ?_
      go_frame
      refine tw 16 (.int .i64 q) ?_
      go_frame
      refine kv (by kernel_rfl) ?_ _
      go_wp2_with fail
      go_meet
      case rel => exact ⟨(v1).heap.size, rfl, rfl, ⟨q, hq, rfl⟩, hz7, Lib.hid hbz, Lib.hid (by simpa using hzz)⟩
     ·
      refine jv _ rfl (by kernel_rfl) (ZP (cs := (idV zero32).toArray) rfl (JV _)) ?_
      have hba : Below w.heap.size w ((w.drew).alloc (.cells (idV zero32).toArray 47)) := (HBD.out).alloc (HBD.out).size _
      have hzc : ((w.drew).alloc (.cells (idV zero32).toArray 47)).heap[(w.drew).heap.size]? = some (.cells (idV zero32).toArray 47 (0, 0)) := heap_alloc_new _ _
      have hzw : w.heap.size ≤ (w.drew).heap.size := (HBD.out).size
      refine ⟨fun _ _ => HFK.out _ hba, ?_⟩
      go_frame
      refine ta 8 ?_
      refine tc #[.slice (some ⟨b, off, none⟩) l.length c, .int .i64 (a : Int)] hE1 rfl ?_
      refine (HGI.out (((w.drew).alloc (.cells (idV zero32).toArray 47))) hba).mono ?_
      rintro e v1 hgi
      obtain ⟨hb1, q, hq, rfl⟩ := HGT.out _ e v1 hgi
      have hbv1 : Below w.heap.size w v1 := (hba).trans (hb1.mono (hba).size)
      have hzv := (hb1.block _ (qX hzc)).trans hzc
      clear hgi
      refine ⟨_, rfl, fun _ _ => HFK.out _ hbv1, ?_⟩
      go_frame
      refine tw 9 (.tuple #[(.agg (idV zero32).toArray), .int .i64 0, .int .i64 q]) ?_
      go_frame
      refine tw 10 (.agg (idV zero32).toArray) ?_
      go_frame
      refine tw 11 (.int .i64 0) ?_
      go_frame
      refine tw 12 (.int .i64 q) ?_
      go_frame
      refine ta 14 ?_
      refine zD _ rfl (by kernel_rfl) (JH 47 _ _ rfl ((w.drew).heap.size) 0 [] (idV zero32) [] (idV zero32) 47 (.agg (idV zero32).toArray) rfl rfl rfl rfl (by simpa using hzv) HLN.out (by rw [k8, show zero32.length = 32 from HID.out]; exact kt) (ky _)) ?_
      have hbw : But (fun k => k = (w.drew).heap.size) v1 (World.setCells v1 ((w.drew).heap.size) ([] : List Value).length (idV zero32)) := zX (X := fun k => k = (w.drew).heap.size) rfl _ _ _
      have hzz : (World.setCells v1 ((w.drew).heap.size) ([] : List Value).length (idV zero32)).heap[(w.drew).heap.size]? = some (.cells ([] ++ ((idV zero32) ++ [])).toArray 47 (0, 0)) := zI (idV zero32) [] (idV zero32) [] _ HLN.out (by simpa using hzv)
      have hbz : Below w.heap.size w (World.setCells v1 ((w.drew).heap.size) ([] : List Value).length (idV zero32)) := (hbv1).trans (hbw.below (hbv1).size (fun k hk => by omega))
      have hz7 : w.heap.size ≤ (w.drew).heap.size := hzw
      refine ⟨fun h => absurd h (by decide), ?_⟩
      go_frame
      refine tw 15 (.int .i64 0) ?_
      go_frame
      refine tw 16 (.int .i64 q) ?_
      go_frame
      refine kv (by kernel_rfl) ?_ _
      go_wp2_with fail
      go_meet
      case rel => exact ⟨(w.drew).heap.size, rfl, rfl, ⟨q, hq, rfl⟩, hz7, Lib.hid hbz, Lib.hid (by simpa using hzz)⟩
   case rest =>
     obtain ⟨z, rfl, rfl, ⟨q, hq, rfl⟩, hz, HBW, HZ⟩ := hcut
     have dq : (q == 0) = false := by rw [beq_eq_false_iff_ne]; exact hq
     clear hq
     go_wp2_with (first
       | (go_at_call 57; refine (Ks _).mono ?_; rintro e w3 ⟨rfl, rfl⟩))
     exact ⟨rfl, UnoGives.no HP.out rfl (HBUT.out.andBelow HBW.out)⟩
  ·
   have hlen32 : ¬ (l.drop a).length < 32 := by
     intro h
     unfold ZE at hg
     rw [if_pos h] at hg
     cases hg
   have hide : id = (l.drop a).take 32 := by
     unfold ZE at hg
     rw [if_neg hlen32] at hg
     exact (Option.some.inj hg).symm
   have HP : Hid (pId (l.drop a) = some (id, l.drop (a + 32))) := Lib.hid (by
     unfold pId
     rw [if_neg hlen32, hide, List.drop_drop])
   have HGT := Lib.hid (fun (u : World) (e : Ending) (u2 : World) (h : JU l a u e u2) => (show Below u.heap.size u u2 ∧ e = .returned (.tuple #[.agg (idV id).toArray, .int .i64 ((a + 32 : Nat) : Int), .int .i64 0]) by
     unfold JU at h; rw [hg] at h; exact h))
   have HID := Lib.hid (show id.length = 32 by rw [hide, List.length_take]; omega)
   have HLN := Lib.hid (show (idV zero32).length = (idV id).length by rw [k8, k8, show id.length = 32 from HID.out]; rfl)
   have hle : a + 32 ≤ l.length := by rw [List.length_drop] at hlen32; omega
   have HLE := Lib.hid hle
   obtain ⟨Av, cv, rfl⟩ := kg HOV.out
   clear hg hide hlen32 hle
   go_enter Tryz.func88, Tryz.ntmps88
   go_upto_region 0 with fail
   go_cut [2, 3, 4] from 5 to 28 (fun t2 t3 t4 wx => ∃ z, t2 = .pointer (some ⟨z, 0, none⟩) ∧ t3 = .int .i64 ((a + 32 : Nat) : Int) ∧ t4 = .int .i64 0 ∧ w.heap.size ≤ z ∧ Hid (Below w.heap.size w wx) ∧ Hid (wx.heap[z]? = some (.cells (idV id).toArray 47 (0, 0))))
   case first =>
     refine rN 14 (fun u => u.cell? ⟨rb, 0, none⟩ = some (.pointer (some ⟨g, 0, none⟩)) ∧ u.cell? ⟨g, 0, none⟩ = some (.slice (some ⟨b, off, none⟩) l.length c) ∧ u.cell? ⟨g, 1, none⟩ = some (.int .i64 (a : Int))) (HF0.out) fun hF0 => ?_
     refine tl 0 (.pointer (some ⟨g, 0, none⟩)) rfl hF0 (fun w' hw' => l1 Tryz.underlying57 hw'.1) ?_
     go_frame
     refine tw 1 (.pointer (some ⟨g, 0, none⟩)) ?_
     go_frame
     refine tw 2 (.pointer (some ⟨g, 0, none⟩)) ?_
     go_frame
     refine tl 3 (.slice (some ⟨b, off, none⟩) l.length c) rfl hF0 (fun w' hw' => l1 Tryz.underlying22 hw'.2.1) ?_
     go_frame
     refine tl 4 (.pointer (some ⟨g, 0, none⟩)) rfl hF0 (fun w' hw' => l1 Tryz.underlying57 hw'.1) ?_
     go_frame
     refine tw 5 (.pointer (some ⟨g, 0, none⟩)) ?_
     go_frame
     refine tw 6 (.pointer (some ⟨g, 1, none⟩)) ?_
     go_frame
     refine tl 7 (.int .i64 (a : Int)) rfl hF0 (fun w' hw' => l1 Tryz.underlying3 hw'.2.2) ?_
     go_frame
     refine Kh (rs := [8, 13]) (by kernel_rfl) (by simp) ?_
     intro q' hq'
     simp only [List.mem_cons, List.not_mem_nil, or_false] at hq'
     rcases hq' with rfl | rfl
     ·
      refine tc #[.slice (some ⟨b, off, none⟩) l.length c, .int .i64 (a : Int)] hE1 rfl ?_
      refine (HGI.out (w.drew) HBD.out).mono ?_
      rintro e v1 hgi
      obtain ⟨hb1, rfl⟩ := HGT.out _ e v1 hgi
      have hbv1 : Below w.heap.size w v1 := (HBD.out).trans (hb1.mono (HBD.out).size)
      clear hgi
      refine ⟨_, rfl, fun _ _ => HFK.out _ hbv1, ?_⟩
      go_frame
      refine tw 9 (.tuple #[(.agg (idV id).toArray), .int .i64 ((a + 32 : Nat) : Int), .int .i64 0]) ?_
      go_frame
      refine tw 10 (.agg (idV id).toArray) ?_
      go_frame
      refine tw 11 (.int .i64 ((a + 32 : Nat) : Int)) ?_
      go_frame
      refine tw 12 (.int .i64 0) ?_
      go_frame
      refine ta 13 ?_
      refine jv _ rfl (by kernel_rfl) (ZP (cs := (idV zero32).toArray) rfl (JV _)) ?_
      have hba : Below w.heap.size w ((v1).alloc (.cells (idV zero32).toArray 47)) := (hbv1).alloc (hbv1).size _
      have hzc : ((v1).alloc (.cells (idV zero32).toArray 47)).heap[(v1).heap.size]? = some (.cells (idV zero32).toArray 47 (0, 0)) := heap_alloc_new _ _
      have hzw : w.heap.size ≤ (v1).heap.size := (hbv1).size
      refine ⟨fun _ _ => HFK.out _ hba, ?_⟩
      go_frame
      refine ta 14 ?_
      refine zD _ rfl (by kernel_rfl) (JH 47 _ _ rfl ((v1).heap.size) 0 [] (idV zero32) [] (idV id) 47 (.agg (idV id).toArray) rfl rfl rfl rfl (by simpa using hzc) HLN.out (by rw [k8, show id.length = 32 from HID.out]; exact kt) (ky _)) ?_
      have hbw : But (fun k => k = (v1).heap.size) ((v1).alloc (.cells (idV zero32).toArray 47)) (World.setCells ((v1).alloc (.cells (idV zero32).toArray 47)) ((v1).heap.size) ([] : List Value).length (idV id)) := zX (X := fun k => k = (v1).heap.size) rfl _ _ _
      have hzz : (World.setCells ((v1).alloc (.cells (idV zero32).toArray 47)) ((v1).heap.size) ([] : List Value).length (idV id)).heap[(v1).heap.size]? = some (.cells ([] ++ ((idV id) ++ [])).toArray 47 (0, 0)) := zI (idV id) [] (idV zero32) [] _ HLN.out (by simpa using hzc)
      have hbz : Below w.heap.size w (World.setCells ((v1).alloc (.cells (idV zero32).toArray 47)) ((v1).heap.size) ([] : List Value).length (idV id)) := (hba).trans (hbw.below (hba).size (fun k hk => by omega))
      have hz7 : w.heap.size ≤ (v1).heap.size := hzw
      refine ⟨fun h => absurd h (by decide), ?_⟩
      go_frame
      refine tw 15 (.int .i64 ((a + 32 : Nat) : Int)) ?_
      go_frame
      refine tw 16 (.int .i64 0) ?_
      go_frame
      refine kv (by kernel_rfl) ?_ _
      go_wp2_with fail
      go_meet
      case rel => exact ⟨(v1).heap.size, rfl, rfl, rfl, hz7, Lib.hid hbz, Lib.hid (by simpa using hzz)⟩
     ·
      refine jv _ rfl (by kernel_rfl) (ZP (cs := (idV zero32).toArray) rfl (JV _)) ?_
      have hba : Below w.heap.size w ((w.drew).alloc (.cells (idV zero32).toArray 47)) := (HBD.out).alloc (HBD.out).size _
      have hzc : ((w.drew).alloc (.cells (idV zero32).toArray 47)).heap[(w.drew).heap.size]? = some (.cells (idV zero32).toArray 47 (0, 0)) := heap_alloc_new _ _
      have hzw : w.heap.size ≤ (w.drew).heap.size := (HBD.out).size
      refine ⟨fun _ _ => HFK.out _ hba, ?_⟩
      go_frame
      refine ta 8 ?_
      refine tc #[.slice (some ⟨b, off, none⟩) l.length c, .int .i64 (a : Int)] hE1 rfl ?_
      refine (HGI.out (((w.drew).alloc (.cells (idV zero32).toArray 47))) hba).mono ?_
      rintro e v1 hgi
      obtain ⟨hb1, rfl⟩ := HGT.out _ e v1 hgi
      have hbv1 : Below w.heap.size w v1 := (hba).trans (hb1.mono (hba).size)
      have hzv := (hb1.block _ (qX hzc)).trans hzc
      clear hgi
      refine ⟨_, rfl, fun _ _ => HFK.out _ hbv1, ?_⟩
      go_frame
      refine tw 9 (.tuple #[(.agg (idV id).toArray), .int .i64 ((a + 32 : Nat) : Int), .int .i64 0]) ?_
      go_frame
      refine tw 10 (.agg (idV id).toArray) ?_
      go_frame
      refine tw 11 (.int .i64 ((a + 32 : Nat) : Int)) ?_
      go_frame
      refine tw 12 (.int .i64 0) ?_
      go_frame
      refine ta 14 ?_
      refine zD _ rfl (by kernel_rfl) (JH 47 _ _ rfl ((w.drew).heap.size) 0 [] (idV zero32) [] (idV id) 47 (.agg (idV id).toArray) rfl rfl rfl rfl (by simpa using hzv) HLN.out (by rw [k8, show id.length = 32 from HID.out]; exact kt) (ky _)) ?_
      have hbw : But (fun k => k = (w.drew).heap.size) v1 (World.setCells v1 ((w.drew).heap.size) ([] : List Value).length (idV id)) := zX (X := fun k => k = (w.drew).heap.size) rfl _ _ _
      have hzz : (World.setCells v1 ((w.drew).heap.size) ([] : List Value).length (idV id)).heap[(w.drew).heap.size]? = some (.cells ([] ++ ((idV id) ++ [])).toArray 47 (0, 0)) := zI (idV id) [] (idV zero32) [] _ HLN.out (by simpa using hzv)
      have hbz : Below w.heap.size w (World.setCells v1 ((w.drew).heap.size) ([] : List Value).length (idV id)) := (hbv1).trans (hbw.below (hbv1).size (fun k hk => by omega))
      have hz7 : w.heap.size ≤ (w.drew).heap.size := hzw
      refine ⟨fun h => absurd h (by decide), ?_⟩
      go_frame
      refine tw 15 (.int .i64 ((a + 32 : Nat) : Int)) ?_
      go_frame
      refine tw 16 (.int .i64 0) ?_
      go_frame
      refine kv (by kernel_rfl) ?_ _
      go_wp2_with fail
      go_meet
      case rel => exact ⟨(w.drew).heap.size, rfl, rfl, rfl, hz7, Lib.hid hbz, Lib.hid (by simpa using hzz)⟩
   case rest =>
     obtain ⟨z, rfl, rfl, rfl, hz, HBW, HZ⟩ := hcut
     go_upto_region 2 with (first
       | (go_at_call 57; refine (K5 _).mono ?_; rintro e w3 ⟨rfl, rfl⟩))
     have hlz := (qX HZ.out)
     have hbd : Below w.heap.size w w3.drew := HBW.out.drew
     have hba : Below w.heap.size w (w3.drew.alloc (.cells (idV id).toArray 47)) := hbd.alloc hbd.size _
     have hzr : ∀ u : World, Below w3.heap.size w3 u → u.rangeAt z 0 (idV id) := fun u hu j v hj => by rw [qZ]; exact ((hu.cell (p := ⟨z, j, none⟩) hlz).trans (k5 HZ.out j)).trans hj
     have hd3 : Below w3.heap.size w3 w3.drew := (qD _ _)
     have ha3 : Below w3.heap.size w3 (w3.drew.alloc (.cells (idV id).toArray 47)) := hd3.alloc (qR _) _
     have HF2 := Lib.hid (show w3.drew.cell? ⟨rb, 0, none⟩ = some (.pointer (some ⟨g, 0, none⟩)) ∧ w3.drew.rangeAt z 0 (idV id) from ⟨(HFK.out _ hbd).1, hzr _ hd3⟩)
     have HF2B := Lib.hid (show (w3.drew.alloc (.cells (idV id).toArray 47)).cell? ⟨rb, 0, none⟩ = some (.pointer (some ⟨g, 0, none⟩)) ∧ (w3.drew.alloc (.cells (idV id).toArray 47)).rangeAt z 0 (idV id) from ⟨(HFK.out _ hba).1, hzr _ ha3⟩)
     have HOBA := Lib.hid (show w3.drew.cell? ⟨ob, 0, none⟩ = some (.slice Av xs.length cv) from (hbd.cell (p := ⟨ob, 0, none⟩) hlob).trans (k5 HOB.out 0))
     have HOB2 := Lib.hid (show (w3.drew.alloc (.cells (idV id).toArray 47)).cell? ⟨ob, 0, none⟩ = some (.slice Av xs.length cv) from (hba.cell (p := ⟨ob, 0, none⟩) hlob).trans (k5 HOB.out 0))
     have HOW := Lib.hid ((But.of_below (X := NoB) hba).own HOV.out fun _ _ q => q)
     have HNW := Lib.hid (show ∀ j u, (idV id)[j]? = some u → (w3.drew.alloc (.cells (idV id).toArray 47)).cell? ((⟨w3.drew.heap.size, 0, none⟩ : Addr).add j) = some u from fun j u hj => by
       have e1 : (⟨w3.drew.heap.size, 0, none⟩ : Addr).add j = ⟨w3.drew.heap.size, j, none⟩ := by unfold Addr.add; split <;> simp_all
       rw [e1]
       exact (k5 (heap_alloc_new _ _) j).trans hj)
     have HGZ := Lib.hid (show w0.heap.size ≤ (w3.drew.alloc (.cells (idV id).toArray 47)).heap.size from qT HBUT.out.size hba.size)
     have HPUT := Lib.hid (fun (w9 : World) (v9 : Value) => ids_put (w9 := w9) (v9 := v9) HRD.out HRB.out hob0 hgrb hgob hrbob HBUT.out hg0 HXS.out HOB.out HOV.out HID.out hba hz (qL hlz ha3.size) (hzr _ ha3) HLE.out)
     clear hbd hba hzr hd3 ha3 hlz
     refine rN 7 (fun u => u.cell? ⟨rb, 0, none⟩ = some (.pointer (some ⟨g, 0, none⟩)) ∧ u.rangeAt z 0 (idV id)) (HF2.out) fun hF2 => ?_
     refine tl 0 (.pointer (some ⟨g, 0, none⟩)) rfl hF2 (fun w' hw' => l1 Tryz.underlying57 hw'.1) ?_
     go_frame
     refine tl 2 (.agg (idV id).toArray) rfl hF2 (fun w' hw' => k9 47 _ rfl (p := ⟨z, 0, none⟩) rfl (qV w' _ _ _ (idV id) _ hw'.2 Tryz.underlying47 rfl (by rw [k8, show id.length = 32 from HID.out]; exact kt))) ?_
     go_frame
     refine tw 5 (.int .i64 ((a + 32 : Nat) : Int)) ?_
     go_frame
     refine Kh (rs := [1, 3]) (by kernel_rfl) (by simp) ?_
     intro q' hq'
     simp only [List.mem_cons, List.not_mem_nil, or_false] at hq'
     rcases hq' with rfl | rfl
     focus
       refine jv _ rfl (by kernel_rfl) (jm 23 _ rfl (p := ⟨ob, 0, none⟩) rfl Tryz.underlying23 rfl HOBA.out) ?_
       refine ⟨fun _ h => h, ?_⟩
       go_frame
       refine ta 3 ?_
       refine jv _ rfl (by kernel_rfl) (JK 23 _ rfl 47 Tryz.underlying23 (.agg (idV zero32).toArray) 32 32 zg rfl (by decide) (by decide) (idV id) (by rw [k8]; exact HID.out) rfl) ?_
       refine ⟨fun _ _ => HF2B.out, ?_⟩
     rotate_left
     focus
       refine jv _ rfl (by kernel_rfl) (JK 23 _ rfl 47 Tryz.underlying23 (.agg (idV zero32).toArray) 32 32 zg rfl (by decide) (by decide) (idV id) (by rw [k8]; exact HID.out) rfl) ?_
       refine ⟨fun _ _ => HF2B.out, ?_⟩
       go_frame
       refine ta 1 ?_
       refine jv _ rfl (by kernel_rfl) (jm 23 _ rfl (p := ⟨ob, 0, none⟩) rfl Tryz.underlying23 rfl HOB2.out) ?_
       refine ⟨fun _ h => h, ?_⟩
     all_goals
       go_frame
       refine ta 4 ?_
       refine Jz _ rfl (by kernel_rfl) ?_
       refine Z6 _ _ 23 rfl w0.heap.size 47 (.agg (idV zero32).toArray) 32 32 Tryz.underlying23 zg rfl (by decide) (.slice Av xs.length cv) xs.length (kr xs) rfl HOW.out ⟨w3.drew.heap.size, 0, none⟩ 1 1 (idV id) rfl (by rw [k8, Nat.one_mul]; exact HID.out) HNW.out (ky _) (by unfold maxLen; omega) (by omega) HGZ.out ?_
       intro v9 w9 ho9 hg9 hw9
       obtain ⟨A9, c9, rfl⟩ := kg ho9
       obtain ⟨ho1, ho2, hj1⟩ := HPUT.out w9 _ ho9 hg9 hw9
       refine ⟨fun _ _ => ho1, ?_⟩
       go_frame
       refine ta 6 ?_
       refine zD _ rfl (by kernel_rfl) (Jb 23 _ _ rfl ob 0 (.slice A9 (xs.length + 1) c9) rfl rfl rfl rfl (by kernel_rfl) ho2.1 ho2.2) ?_
       obtain ⟨ho3, ho4, ho5, hj2⟩ := hj1
       refine ⟨fun _ _ => ho3, ?_⟩
       go_frame
       refine tw 7 (.pointer (some ⟨g, 0, none⟩)) ?_
       go_frame
       refine tw 8 (.pointer (some ⟨g, 1, none⟩)) ?_
       go_frame
       refine ta 9 ?_
       refine zD _ rfl (by kernel_rfl) (Jb 3 _ _ rfl g 1 (.int .i64 ((a + 32 : Nat) : Int)) rfl rfl rfl rfl (by kernel_rfl) ho4 ho5) ?_
       refine ⟨fun h => absurd h (by decide), ?_⟩
       go_frame
       refine kv (by kernel_rfl) ?_ _
       go_wp2_with fail
       go_end0
       exact UnoGives.yes HP.out rfl (Nat.le_add_right _ _) hj2
end Go.Proofs.YthjaepmfkgejkaaGreatDoor
