/-
  The program's sum of bytes. Conditions: bytes that lie in memory; the tables hold what the program's text lays.
  The document's padding. Conditions: bytes that lie in memory.
-/
import Derived.Test.YtmlhijlcefogmaaGreatDoorMerged2
import Derived.Test.YtmlhijlcefogmaaGreatDoorMerged26
import Derived.Test.YtmlhijlcefogmaaGreatDoorMerged27
set_option linter.unusedVariables false
set_option linter.unusedSimpArgs false
set_option maxHeartbeats 4000000
set_option maxRecDepth 100000
namespace Go.Proofs.YtmlhijlcefogmaaGreatDoor
open Go.RowKit Go.Maps

def hashZ : List Value := w32V (st8 (0, 0, 0, 0, 0, 0, 0, 0)) ++ (idV (List.replicate 64 0) ++ [.int .i64 0, .int .i64 0])
theorem hv_one {S : St8} {rest : List UInt8} {f size : Nat} (h : rest.length = 64) : ∀ u ∈ hv S rest f size, u.oneCell' = true := by
  intro u hu
  unfold hv at hu
  rcases List.mem_append.1 hu with hu | hu
  · exact w32V_one _ u hu
  · rcases List.mem_append.1 hu with hu | hu
    · exact idV_one _ u hu
    · simp only [List.mem_cons, List.not_mem_nil, or_false] at hu
      rcases hu with rfl | rfl <;> rfl
theorem zeros_go {n k : Nat} (h : k ≤ zerosN n) : (k < zerosN n ↔ (n + (k + 1)) % 64 ≠ 56) := by
  unfold zerosN at *
  omega
theorem lenS_take {n i : Nat} (hi : i < 8) : (lenS n).take (i + 1) = (lenS n).take i ++ [UInt8.ofNat (n * 8 / 2 ^ (56 - 8 * i))] := by
  unfold lenS
  rw [← List.map_take, ← List.map_take, List.take_range, List.take_range, Nat.min_eq_left (by omega), Nat.min_eq_left (by omega), List.range_succ, List.map_append]
  rfl
theorem u8_mod (n s : Nat) : (Value.int .u8 ((UInt8.ofNat (n * 8 / 2 ^ s)).toNat : Int)) = .int .u8 ((n : Int) * 8 / 2 ^ s % 256) := by
  rw [UInt8.toNat_ofNat']
  congr 1
theorem idV_snoc (l : List UInt8) (x : UInt8) : idV (l ++ [x]) = idV l ++ [.int .u8 (x.toNat : Int)] := by simp [idV]
theorem own_bytes {w : World} {base n c : Nat} {A : Option Addr} {l : List UInt8} (h : w.ownsRow base 5 1 (.slice A n c) n (idV l)) {z : Nat} {cs : List Value} {T : TypeId} (hz : w.heap[z]? = some (.cells cs.toArray T (0, 0))) (hT : 5 ≠ T) :
    0 < l.length → ∃ b off, A = some ⟨b, off, none⟩ ∧ b < w.heap.size ∧ b ≠ z ∧ ∀ j (hj : j < l.length), w.cell? ⟨b, off + j, none⟩ = some (.int .u8 (byteAt l j : Int)) := by
  intro h0
  have hs := Sl.of_own h
  have hn : l.length = n := by have := hs.1; simpa [idV] using this
  obtain ⟨b, off, rfl, hlt, hc⟩ := hs.2 (by omega)
  refine ⟨b, off, rfl, hlt, fun e => ?_, fun j hj => ?_⟩
  · have h2 := own_not h hz hT
    rcases h.2 with ⟨hev, h3⟩ | ⟨g, cap, cur, hev, _⟩
    · cases hev
    · rw [hev] at h2
      injection hev with hv1 _ _
      injection hv1 with hv1
      injection hv1 with hb _ _
      exact h2 (by rw [← e, hb]; rfl)
  · refine hc j _ ?_
    unfold idV byteAt
    rw [List.getElem?_map, List.getElem?_eq_getElem hj, List.getD_eq_getElem?_getD, List.getElem?_eq_getElem hj]
    rfl
theorem ex_idx8 {ρ : Operand → Value} {o : Oper} {w : World} (x y : Operand) (ho : o.op = .index 269 x y) {xs : List Int} (hl : xs.length = 8) (hx : ρ x = .agg (w32V xs).toArray) {t : Nat} (ht : t < 8) (hy : ρ y = .int .i64 (t : Int)) {V : Int} (hv : xs.getD t 0 = V) :
    (execOp ρ o).run Tryz.prog w = .ok (.value (.int .u32 V)) w := by
  have h := w32V_at (l := xs) (i := t) (by omega)
  rw [hv] at h
  obtain ⟨i, hi, hsz⟩ := Option.map_eq_some_iff.1 (show (Tryz.prog.info? 244).map (·.size) = some 1 by kernel_rfl)
  unfold execOp
  simp only [ho, hx, hy, Instr.index, asIntOf, run_underlying Tryz.underlying269, Sem.run_bind, Result.andThen_ok, Sem.run_pure]
  simp only [show ((0 : Int) ≤ (t : Int) ∧ (t : Int) < ((8 : Nat) : Int)) from ⟨by omega, by omega⟩, and_self, if_true]
  simp [part, isAgg, run_underlying Tryz.underlying244, Sem.run_bind, Result.andThen, h, sizeOf, typeInfo, hi, hsz]
theorem at_index {P : Program} {ops : Array Oper} {Q : Exit → Act → World → Prop} {rest : List Oper} {a : Act} {w : World} {d : Option Tmp} {t : TypeId} {p : String} {af : Array Edge} {g : Option (Nat × Bool)} {ty : TypeId} {x y : Operand} (h : wpList P ops Q ({ dst := d, op := .index ty x y, type := t, pos := p, after := af, guard := g } :: rest) a w) : wpList P ops Q ({ dst := d, op := .index ty x y, type := t, pos := p, after := af, guard := g } :: rest) a w := h
def outP (S : St8) (i : Nat) : List UInt8 := (List.range 32).map fun k => if k < 4 * i then (outS S).getD k 0 else 0
def b8 (x : Int) (d : Nat) : Value := .int .u8 ((UInt8.ofNat (x.toNat / d)).toNat : Int)
theorem outP_length (S : St8) (i : Nat) : (idV (outP S i)).length = 32 := by simp [idV, outP]
theorem outP_set (S : St8) {i : Nat} (hi : i < 8) : ((((idV (outP S i)).toArray.setIfInBounds (4 * i) (b8 ((st8 S).getD i 0) 16777216)).setIfInBounds (4 * i + 1) (b8 ((st8 S).getD i 0) 65536)).setIfInBounds (4 * i + 2) (b8 ((st8 S).getD i 0) 256)).setIfInBounds (4 * i + 3) (.int .u8 ((UInt8.ofNat ((st8 S).getD i 0).toNat).toNat : Int)) = (idV (outP S (i + 1))).toArray := by
  match i, hi with
  | 0, _ | 1, _ | 2, _ | 3, _ | 4, _ | 5, _ | 6, _ | 7, _ => rfl
structure OutAt (w : World) (z : Nat) (S : St8) (i : Nat) (wx : World) : Prop where
  but : But (fun k => k = z) w wx
  row : wx.heap[z]? = some (.cells (idV (outP S i)).toArray 50 (0, 0))
theorem OutAt.any {w : World} {z : Nat} {S : St8} {i : Nat} {wx : World} (h : OutAt w z S i wx) {k : Nat} (hk : k < 32) : ∃ u, wx.cell? ⟨z, k, none⟩ = some u :=
  ⟨(idV (outP S i))[k]'(by rw [outP_length]; exact hk), (cells_at0 h.row k).trans (List.getElem?_eq_getElem _)⟩
theorem OutAt.fr {w : World} {z : Nat} {S : St8} {i : Nat} {wx : World} (h : OutAt w z S i wx) (k : Nat) : wx.frozen? ⟨z, k, none⟩ = false := frozen_of_row _ _ _ _ _ h.row
theorem OutAt.next {w : World} {z : Nat} {S : St8} {i : Nat} {wx : World} (h : OutAt w z S i wx) (hi : i < 8) : OutAt w z S (i + 1) ((((wx.setCell ⟨z, 4 * i, none⟩ (b8 ((st8 S).getD i 0) 16777216)).setCell ⟨z, 4 * i + 1, none⟩ (b8 ((st8 S).getD i 0) 65536)).setCell ⟨z, 4 * i + 2, none⟩ (b8 ((st8 S).getD i 0) 256)).setCell ⟨z, 4 * i + 3, none⟩ (.int .u8 ((UInt8.ofNat ((st8 S).getD i 0).toNat).toNat : Int))) := by
  refine ⟨(((h.but.setCell (fun _ => rfl) _).setCell (fun _ => rfl) _).setCell (fun _ => rfl) _).setCell (fun _ => rfl) _, ?_⟩
  rw [← outP_set S hi]
  exact set_blk (set_blk (set_blk (set_blk h.row _) _) _) _
theorem b8_mid {X : Int} {d : Nat} (h : 0 ≤ X) : Value.int .u8 (X / (d : Int) % 256) = b8 X d := by
  obtain ⟨x, rfl⟩ := Int.eq_ofNat_of_zero_le h
  unfold b8
  rw [Int.toNat_natCast, UInt8.toNat_ofNat']
  rfl
theorem b8_top {X : Int} (h : 0 ≤ X) (h2 : X ≤ 4294967295) : Value.int .u8 (X / 16777216) = b8 X 16777216 := by
  rw [← b8_mid h]
  congr 1
  show X / 16777216 = X / 16777216 % 256
  omega
theorem b8_low {X : Int} (h : 0 ≤ X) : Value.int .u8 (X % 256) = .int .u8 ((UInt8.ofNat X.toNat).toNat : Int) := by
  obtain ⟨x, rfl⟩ := Int.eq_ofNat_of_zero_le h
  rw [Int.toNat_natCast, UInt8.toNat_ofNat']
  rfl
theorem hashSum_any (z : Nat) (D rest : List UInt8) (w wz : World) (h : HashAt wz z D rest D.length w) (hD : D.length ≤ 1099511627776) (hg : ShaG w) :
    Calls Tryz.prog 138 #[.pointer (some ⟨z, 0, none⟩)] w fun e w' => e = .returned (.agg (idV (shaS D)).toArray) ∧ Below w.heap.size w w' := by
  have HLF := Lib.hid h.left; have HRW := Lib.hid h.row; have HZL := Lib.hid h.lt; have HG := Lib.hid hg
  clear h hg
  go_enter Tryz.func138, Tryz.ntmps138
  go_upto_region 3 with (first
    | (with_reducible refine at_alloc ?_
       refine wp_allocM (by rfl) 50 rfl (List.replicate 32 (.int .u8 0)) (by kernel_rfl) ?_
       intro W0 hb0 hz0 hs0
       have HB0 := Lib.hid hb0; have HZ0 := Lib.hid hz0; have HS0 := Lib.hid hs0
       clear hb0 hz0 hs0))
  have HZR := Lib.hid ((HB0.out.block z HZL.out).trans HRW.out)
  go_upto_region 4 with (first
    | (with_reducible refine at_load ?_
       refine wp_val (by rfl) (ex_load 312 _ rfl (p := ⟨z, 0, none⟩) rfl (qV _ _ _ _ (hv (hashS D firstS (D.length / 64)) rest (D.length % 64) D.length) _ (fun j u hj => by rw [qZ]; exact (cells_at0 HZR.out j).trans hj) Tryz.underlying312 rfl (by rw [hv_length HLF.out.1]; kernel_rfl))) ?_)
    | (with_reducible refine at_alloc ?_
       refine wp_allocM (by rfl) 312 rfl hashZ (by kernel_rfl) ?_
       intro W2 hb2 hz2 hs2
       have HB2 := Lib.hid hb2; have HZ2 := Lib.hid hz2; have HS2 := Lib.hid hs2
       clear hb2 hz2 hs2)
    | (with_reducible refine at_store ?_
       refine wp_storeM (by rfl) 312 _ _ rfl W0.heap.size 0 [] hashZ [] (hv (hashS D firstS (D.length / 64)) rest (D.length % 64) D.length) 312 (.agg (hv (hashS D firstS (D.length / 64)) rest (D.length % 64) D.length).toArray) rfl rfl rfl rfl (by simpa using HZ2.out) (by rw [hv_length HLF.out.1]; rfl) (by rw [hv_length HLF.out.1]; kernel_rfl) (hv_one HLF.out.1) ?_
       intro W3 hb3 hy3 hs3
       have HB3 := Lib.hid (HB2.out.trans (hb3.below HB2.out.size (fun k hk e => by have e' : k = W0.heap.size := e; omega)))
       have HY3 : Hid (W3.heap[W0.heap.size]? = some (.cells (hv (hashS D firstS (D.length / 64)) rest (D.length % 64) D.length).toArray 312 (0, 0))) := Lib.hid (by simpa using hy3)
       have HS3 := Lib.hid hs3
       clear hb3 hy3 hs3))
  obtain ⟨zi, hzi⟩ : ∃ x, w.heap.size = x := ⟨_, rfl⟩
  obtain ⟨ze, hze⟩ : ∃ x, W0.heap.size = x := ⟨_, rfl⟩
  have HBW := Lib.hid (HB0.out.trans (HB3.out.mono HB0.out.size))
  have HORD := Lib.hid (show w.heap.size = zi ∧ zi < ze ∧ ze < W3.heap.size ∧ z < zi by have := HS0.out; have := HS2.out; have := HS3.out; have := HZL.out; omega)
  have HIR : Hid (W3.heap[zi]? = some (.cells (List.replicate 32 (.int .u8 0)).toArray 50 (0, 0))) := Lib.hid (by rw [← hzi]; exact (HB3.out.block _ (by have := HS0.out; omega)).trans HZ0.out)
  rw [hze] at HY3 ⊢
  rw [hzi]
  try simp only [Act.put, List.setIfInBounds_toArray, List.set_cons_zero, List.set_cons_succ]
  have HZ3 := Lib.hid ((HB3.out.block z (qL HZL.out HB0.out.size)).trans HZR.out)
  clear hzi hze HZ0 HZ2 HB2 HS0 HS2 HS3 HB0 HB3 HZR
  go_upto_region 5 with fail
  have HOW := Lib.hid (World.ownsRow_lit (e := 5) (size := 1) W3 #[.int .u8 128] 1 (qR _) (by unfold maxLen; omega) rfl)
  have HBA := Lib.hid (show Below W3.heap.size W3 (W3.alloc (.cells #[.int .u8 128] 5)) from (qB _ _).alloc (qR _) _)
  have hzn : zerosN D.length ≤ 63 := by unfold zerosN; omega
  go_loopw [4] (fun t4 wr => ∃ (k : Nat) (A : Option Addr) (c : Nat), k ≤ zerosN D.length ∧ t4 = .slice A (k + 1) c ∧ Hid (wr.ownsRow W3.heap.size 5 1 (.slice A (k + 1) c) (k + 1) (idV (128 :: List.replicate k 0))) ∧ Hid (Below W3.heap.size W3 wr)) (fun t4 _ => 100 - shaLen t4)
  case atStart => exact ⟨0, _, _, Nat.zero_le _, rfl, HOW, HBA⟩
  case round =>
    clear HOW HBA
    obtain ⟨k, A, c, hk, rfl, HO, HB⟩ := hrel
    have c73 : wr.cell? ⟨z, 73, none⟩ = some (.int .i64 (D.length : Int)) := (HB.out.cell (p := ⟨z, 73, none⟩) (show z < W3.heap.size by have := HORD.out; omega)).trans ((cells_at0 HZ3.out 73).trans (hv_size HLF.out.1))
    have hgo := zeros_go hk
    by_cases hlt : k < zerosN D.length
    · have h56 := hgo.1 hlt
      have e56 : ((((D.length : Int) + ((k : Int) + 1)) % 64) != 56) = true := by rw [bne_iff_ne]; omega
      clear hgo h56
      have hb3 := HB.out.size
      go_wp2_with (at_builtin; refine wp_app1 rfl _ _ 78 rfl W3.heap.size 5 (.int .u8 0) 1 Tryz.underlying78 info_u8 rfl _ _ _ rfl HO.out _ _ rfl rfl ?c1 ?c2 ?c3 ?_)
      case c1 => unfold maxLen; omega
      case c2 => omega
      case c3 => omega
      intro v9 w9 ho9 hg9
      obtain ⟨A9, c9, rfl⟩ := own_form' ho9
      have HO9 := Lib.hid ho9
      have HB9 := Lib.hid (hg9 W3.heap.size W3 (qR _) HB.out)
      clear ho9 hg9
      go_wp2_with fail
      go_roundw
      case rel =>
        refine ⟨k + 1, A9, c9, by omega, rfl, Lib.hid ?_, HB9⟩
        rw [List.replicate_succ', ← List.cons_append, idV_app]
        exact HO9.out
      case measure => simp only [shaLen]; omega
    · obtain rfl : k = zerosN D.length := by omega
      have h56 : ((((D.length : Int) + ((zerosN D.length : Int) + 1)) % 64) != 56) = false := by
        rw [bne_eq_false_iff_eq]
        have h := (not_congr hgo).1 (by omega)
        omega
      clear hgo
      have HZN := Lib.hid hzn
      go_upto_region 9 with fail
      clear c73 h56
      go_loopw [36, 4] (fun t36 t4 wr => ∃ (i : Nat) (A : Option Addr) (c : Nat), i ≤ 8 ∧ t36 = .int .i64 (i : Int) ∧ t4 = .slice A (zerosN D.length + 1 + i) c ∧ Hid (wr.ownsRow W3.heap.size 5 1 (.slice A (zerosN D.length + 1 + i) c) (zerosN D.length + 1 + i) (idV (128 :: List.replicate (zerosN D.length) 0 ++ (lenS D.length).take i))) ∧ Hid (Below W3.heap.size W3 wr)) (fun t36 _ _ => 8 - (intOf t36).toNat)
      case atStart => exact ⟨0, A, c, Nat.zero_le _, rfl, rfl, by rw [List.take_zero, List.append_nil]; exact HO, HB⟩
      case round =>
        clear HO HB
        obtain ⟨i, A, c, hi, rfl, rfl, HO, HB⟩ := hrel
        have hb3 := HB.out.size
        by_cases hlt : i < 8
        · have i8 : (i : Int) < 8 := by omega
          obtain ⟨s, hs⟩ : ∃ s, 56 - 8 * i = s := ⟨_, rfl⟩
          have es : 56 - 8 * (i : Int) = (s : Int) := by omega
          have hs56 : s ≤ 56 := by omega
          have HSE := Lib.hid hs
          clear hs
          go_wp2_with (at_builtin; refine wp_app1 rfl _ _ 78 rfl W3.heap.size 5 (.int .u8 0) 1 Tryz.underlying78 info_u8 rfl _ _ _ rfl HO.out _ _ rfl rfl ?c1 ?c2 ?c3 ?_)
          case c1 => unfold maxLen; omega
          case c2 => omega
          case c3 => omega
          intro v9 w9 ho9 hg9
          obtain ⟨A9, c9, rfl⟩ := own_form' ho9
          have HO9 := Lib.hid ho9
          have HB9 := Lib.hid (hg9 W3.heap.size W3 (qR _) HB.out)
          clear ho9 hg9
          go_wp2_with fail
          go_roundw
          case rel =>
            refine ⟨i + 1, A9, c9, by omega, by go_num, rfl, Lib.hid ?_, HB9⟩
            have h := HO9.out
            rw [← u8_mod, ← idV_snoc] at h
            rw [lenS_take hlt, HSE.out, ← List.append_assoc]
            exact h
          case measure => (simp [intOf]) <;> omega
        · obtain rfl : i = 8 := by omega
          have i8 : ¬ ((8 : Nat) : Int) < 8 := by omega
          obtain ⟨TL, hTL⟩ : ∃ TL, (128 :: List.replicate (zerosN D.length) 0 ++ (lenS D.length).take 8 : List UInt8) = TL := ⟨_, rfl⟩
          have HPD := Lib.hid (show D ++ TL = padS D by rw [← hTL]; rfl)
          have htl : TL.length = zerosN D.length + 1 + 8 := by rw [← hTL]; simp [lenS]
          rw [hTL, ← htl] at HO
          rw [← htl]
          have HTL := Lib.hid htl
          clear hTL htl
          have HSR := Lib.hid (own_bytes HO.out (HB.out.block ze (by have := HORD.out; omega) |>.trans HY3.out) (by decide))
          have HGR := Lib.hid (HG.out.next (HBW.out.trans (HB.out.mono HBW.out.size)))
          have HNZ := Lib.hid (show 3 ≠ ze ∧ 2 ≠ ze by have h1 := cell_lt (HG.out.1 0 (by decide)); have h2 := cell_lt (HG.out.2 0 (by decide)); have := HORD.out; omega)
          have HCP := Lib.hid (own_cap8 HO.out)
          have htl2 : TL.length ≤ 1099511627776 := by rw [HTL.out]; have := HZN.out; omega
          go_upto_region 15 with (first
            | (go_at_call 137; refine (write_any ze D rest D.length TL A c wr ⟨But.refl _ _, (HB.out.block ze (by have := HORD.out; omega)).trans HY3.out, HLF.out⟩ HCP.out htl2 (by omega) HSR.out HGR.out HNZ.out).mono ?_
               rintro e w5 ⟨rfl, rest5, hh5⟩
               have HH5 := Lib.hid hh5
               clear hh5)
            | (with_reducible refine at_alloc ?_
               refine wp_allocM (by rfl) 50 rfl (List.replicate 32 (.int .u8 0)) (by kernel_rfl) ?_
               intro W4 hb4 hz4 hs4
               have HB4 := Lib.hid hb4; have HZ4 := Lib.hid hz4; have HS4 := Lib.hid hs4
               clear hb4 hz4 hs4))
          obtain ⟨S, hS⟩ : ∃ S, hashS (padS D) firstS ((padS D).length / 64) = S := ⟨_, rfl⟩
          have HS := Lib.hid hS
          have HSO : Hid S.ok := Lib.hid (hS ▸ ok_hash first_ok _)
          have HR4 : Hid (∃ tl : List Value, W4.heap[ze]? = some (.cells (w32V (st8 S) ++ tl).toArray 312 (0, 0))) := Lib.hid ⟨_, by rw [← hS, ← HPD.out]; exact (HB4.out.block ze HH5.out.lt).trans HH5.out.row⟩
          have HW4 := Lib.hid ((HBW.out.trans (HB.out.mono HBW.out.size)).trans ((HH5.out.but.andBelow HB4.out).below (qT HBW.out.size HB.out.size) fun k hk e => by have := HORD.out; omega))
          have HIR4 := Lib.hid ((HB4.out.block zi (qL (by have := HORD.out; omega) (qT HB.out.size HH5.out.but.size))).trans ((HH5.out.but.block zi (qL (by have := HORD.out; omega) HB.out.size) (by have := HORD.out; omega)).trans ((HB.out.block zi (by have := HORD.out; omega)).trans HIR.out)))
          obtain ⟨zo, hzo⟩ : ∃ x, w5.heap.size = x := ⟨_, rfl⟩
          have HZO := Lib.hid (show zi < zo ∧ zo < W4.heap.size by have h1 := HH5.out.but.size; have h2 := HB.out.size; have h3 := HORD.out; have h4 := HS4.out; omega)
          rw [hzo] at HZ4 ⊢
          try simp only [Act.put, List.setIfInBounds_toArray, List.set_cons_zero, List.set_cons_succ]
          have HO4 : Hid (OutAt W4 zo S 0 W4) := Lib.hid ⟨But.refl _ _, HZ4.out⟩
          clear hS hzo HS4 HZ4 HB4 HH5 HO HB
          obtain ⟨tl, htl4⟩ := HR4.out
          have HR4 := Lib.hid htl4
          clear htl4
          go_upto_region 16 with (first | (with_reducible refine at_load ?_
                                           refine wp_val (by rfl) (ex_load 269 _ rfl (p := ⟨ze, 0, none⟩) rfl (qV _ _ _ _ (w32V (st8 S)) _ (fun j u hj => by rw [qZ]; exact (cells_at0 HR4.out j).trans ((List.getElem?_append_left (List.getElem?_eq_some_iff.1 hj).1).trans hj)) Tryz.underlying269 rfl (by kernel_rfl))) ?_))
          go_loopw [53] (fun t53 wr => ∃ i : Nat, i ≤ 8 ∧ t53 = .int .i64 (i : Int) ∧ Hid (OutAt W4 zo S i wr)) (fun t53 _ => 8 - (intOf t53).toNat)
          case atStart => exact ⟨0, by omega, rfl, HO4⟩
          case round =>
            clear HO4
            obtain ⟨i, hi, rfl, HO⟩ := hrel
            by_cases hlt : i < 8
            · have i8 : (i : Int) < 8 := by omega
              obtain ⟨X, hX⟩ : ∃ x, (st8 S).getD i 0 = x := ⟨_, rfl⟩
              obtain ⟨X0, X1⟩ : 0 ≤ X ∧ X ≤ 4294967295 := hX ▸ w32_of HSO.out i hlt
              have HX := Lib.hid hX
              clear hX
              obtain ⟨m, hm⟩ : ∃ m, 4 * i = m := ⟨_, rfl⟩
              have e4 : 4 * (i : Int) = (m : Int) := by omega
              have hm3 : m + 3 < 32 := by omega
              have HM := Lib.hid hm
              obtain ⟨u0, q0⟩ := HO.out.any (k := m) (by omega)
              obtain ⟨u1, q1⟩ := HO.out.any (k := m + 1) (by omega)
              obtain ⟨u2, q2⟩ := HO.out.any (k := m + 2) (by omega)
              obtain ⟨u3, q3⟩ := HO.out.any (k := m + 3) (by omega)
              have f0 := HO.out.fr m
              have f1 := HO.out.fr (m + 1)
              have f2 := HO.out.fr (m + 2)
              have f3 := HO.out.fr (m + 3)
              clear hm
              go_wp2_with (first | (with_reducible refine at_index ?_
                                    refine wp_val (by rfl) (ex_idx8 _ _ rfl (xs := st8 S) rfl rfl (t := i) hlt rfl HX.out) ?_))
              go_roundw
              case rel =>
                refine ⟨i + 1, by omega, by go_num, Lib.hid ?_⟩
                have h := HO.out.next hlt
                rw [HX.out, HM.out] at h
                rw [b8_top X0 X1, b8_low X0, show Value.int .u8 (X / 65536 % 256) = b8 X 65536 from b8_mid (d := 65536) X0, show Value.int .u8 (X / 256 % 256) = b8 X 256 from b8_mid (d := 256) X0]
                exact h
              case measure => (simp [intOf]) <;> omega
            · obtain rfl : i = 8 := by omega
              have i8 : ¬ ((8 : Nat) : Int) < 8 := by omega
              have HROW : Hid (wr.heap[zo]? = some (.cells (idV (outS S)).toArray 50 (0, 0))) := Lib.hid HO.out.row
              have HZF := Lib.hid ((HO.out.but.block zi (Nat.lt_trans HZO.out.1 HZO.out.2) (by have := HZO.out; omega)).trans HIR4.out)
              go_wp2_with (first
                | (with_reducible refine at_load ?_
                   refine wp_val (by rfl) (ex_load 50 _ rfl (p := ⟨zo, 0, none⟩) rfl (qV _ _ _ _ (idV (outS S)) _ (fun j u hj => by rw [qZ]; exact (cells_at0 HROW.out j).trans hj) Tryz.underlying50 rfl (by kernel_rfl))) ?_)
                | (with_reducible refine at_store ?_
                   refine wp_storeM (by rfl) 50 _ _ rfl zi 0 [] (List.replicate 32 (.int .u8 0)) [] (idV (outS S)) 50 (.agg (idV (outS S)).toArray) rfl rfl rfl rfl (by simpa using HZF.out) rfl (by kernel_rfl) (idV_one _) ?_
                   intro W6 hb6 hy6 hs6
                   have HB6 := Lib.hid hb6
                   have HY6 : Hid (W6.heap[zi]? = some (.cells (idV (outS S)).toArray 50 (0, 0))) := Lib.hid (by simpa using hy6)
                   clear hb6 hy6 hs6))
              refine bodyPost_ret (results_one Tryz.results138 _ _ rfl (qV _ zi 0 50 (idV (outS S)) _ (fun j u hj => by rw [qZ]; exact (cells_at0 HY6.out j).trans hj) Tryz.underlying50 rfl (by kernel_rfl))) rfl ?_
              refine ⟨by unfold shaS; rw [HS.out], HW4.out.trans ((HO.out.but.below HW4.out.size (fun k hk e => by have := HZO.out; have := HORD.out; omega)).trans (HB6.out.below (qT HW4.out.size HO.out.but.size) fun k hk e => by have := HORD.out; omega))⟩
theorem hash_built (w : World) : (Instr.build 312 #[(0, .agg (w32V (st8 firstS)).toArray)]).run Tryz.prog w = .ok (.agg (hv firstS (List.replicate 64 0) 0 0).toArray) w := by kernel_rfl
theorem first_cell {w : World} (h : ShaG w) {j : Nat} {u : Value} (hj : (w32V (st8 firstS))[j]? = some u) : w.cell? ⟨2, j, none⟩ = some u := by
  have hl : j < 8 := (List.getElem?_eq_some_iff.1 hj).1
  rw [h.1 j hl, ← hj, w32V_at (l := st8 firstS) hl]
theorem new_any (w : World) (hg : ShaG w) : Calls Tryz.prog 136 #[] w fun e w' => e = .returned (.pointer (some ⟨w.heap.size, 0, none⟩)) ∧ Below w.heap.size w w' ∧ HashAt w' w.heap.size [] (List.replicate 64 0) 0 w' := by
  have HG := Lib.hid hg
  clear hg
  go_enter Tryz.func136, Tryz.ntmps136
  go_wp2_with (first
    | (with_reducible refine at_load ?_
       refine wp_val (by rfl) (ex_load 269 _ rfl (p := ⟨2, 0, none⟩) rfl (qV _ _ _ _ (w32V (st8 firstS)) _ (fun j u hj => by rw [qZ]; exact first_cell HG.out hj) Tryz.underlying269 rfl (by kernel_rfl))) ?_)
    | (with_reducible refine at_build ?_
       refine wp_val (by rfl) (ex_build 312 #[(0, .tmp 1)] rfl (by simp only [List.map_toArray, List.map_cons, List.map_nil]; exact hash_built _)) ?_)
    | (with_reducible refine at_box ?_
       refine wp_boxM (by rfl) 312 _ rfl (hv firstS (List.replicate 64 0) 0 0) (.agg (hv firstS (List.replicate 64 0) 0 0).toArray) rfl rfl (by kernel_rfl) ?_
       intro W0 hb0 hz0 hs0
       have HB0 := Lib.hid hb0; have HZ0 := Lib.hid hz0; have HS0 := Lib.hid hs0
       clear hb0 hz0 hs0))
  go_ret
  exact ⟨rfl, HB0.out, ⟨But.refl _ _, HZ0.out, ⟨rfl, fun j hj => by simp at hj⟩⟩⟩
theorem src_bytes {w : World} {B z : Nat} {A : Option Addr} {l : List UInt8} (h : Sl w B A l.length 1 (idV l)) (hz : z ≥ B) (hB : B ≤ w.heap.size) : 0 < l.length → ∃ b off, A = some ⟨b, off, none⟩ ∧ b < w.heap.size ∧ b ≠ z ∧ ∀ j (hj : j < l.length), w.cell? ⟨b, off + j, none⟩ = some (.int .u8 (byteAt l j : Int)) := by
  intro h0
  obtain ⟨b, off, rfl, hlt, hc⟩ := h.2 h0
  refine ⟨b, off, rfl, by omega, by omega, fun j hj => hc j _ ?_⟩
  unfold idV byteAt
  rw [List.getElem?_map, List.getElem?_eq_getElem hj, List.getD_eq_getElem?_getD, List.getElem?_eq_getElem hj]
  rfl
theorem shaSum_any (l : List UInt8) (A : Option Addr) (c bp op cp : Nat) (w : World) (hc : l.length ≤ c) (hl : l.length ≤ 1099511627776) (hbp : bp < w.heap.size) (hp : w.cell? ⟨bp, op, none⟩ = some (.slice A l.length c)) (hs : Sl w w.heap.size A l.length 1 (idV l)) (hg : ShaG w) :
    Calls Tryz.prog 88 #[.slice (some ⟨bp, op, none⟩) 1 cp] w fun e w' => e = .returned (.agg (idV (shaS l)).toArray) ∧ Below w.heap.size w w' := by
  have HP := Lib.hid hp; have HSL := Lib.hid hs; have HG := Lib.hid hg
  clear hp hs hg
  go_enter Tryz.func88, Tryz.ntmps88
  go_upto_region 1 with (first
    | (with_reducible refine at_alloc ?_
       refine wp_allocM (by rfl) 50 rfl (List.replicate 32 (.int .u8 0)) (by kernel_rfl) ?_
       intro W0 hb0 hz0 hs0
       have HB0 := Lib.hid hb0; have HZ0 := Lib.hid hz0; have HS0 := Lib.hid hs0
       clear hb0 hz0 hs0))
  go_upto_region 3 with (first
    | (go_at_call 136; refine (new_any W0 (HG.out.next HB0.out)).mono ?_
       rintro e W1 ⟨rfl, hb1, hh1⟩
       have HB1 := Lib.hid hb1; have HH1 := Lib.hid hh1
       clear hb1 hh1))
  obtain ⟨zi, hzi⟩ : ∃ x, w.heap.size = x := ⟨_, rfl⟩
  obtain ⟨zh, hzh⟩ : ∃ x, W0.heap.size = x := ⟨_, rfl⟩
  have HBW := Lib.hid (HB0.out.trans (HB1.out.mono HB0.out.size))
  have HORD := Lib.hid (show w.heap.size = zi ∧ zi < zh ∧ zh < W1.heap.size by have h1 := HS0.out; have h2 := HH1.out.lt; omega)
  have HIR : Hid (W1.heap[zi]? = some (.cells (List.replicate 32 (.int .u8 0)).toArray 50 (0, 0))) := Lib.hid (by rw [← hzi]; exact (HB1.out.block _ (by have := HS0.out; omega)).trans HZ0.out)
  rw [hzh] at HH1 ⊢
  rw [hzi]
  try simp only [Act.put, List.setIfInBounds_toArray, List.set_cons_zero, List.set_cons_succ]
  clear HZ0 HS0 hzi hzh
  go_loopw [9] (fun t9 wr => ∃ i : Nat, i ≤ 1 ∧ t9 = .int .i64 (i : Int) ∧ Hid (i = 0 → HashAt W1 zh [] (List.replicate 64 0) 0 wr) ∧ Hid (i = 1 → ∃ rest, HashAt W1 zh ([] ++ l) rest (0 + l.length) wr)) (fun t9 _ => 1 - (intOf t9).toNat)
  case atStart => exact ⟨0, by omega, rfl, Lib.hid (fun _ => HH1.out), Lib.hid (fun h => absurd h (by decide))⟩
  case round =>
    clear HH1
    obtain ⟨i, hi, rfl, H0, H1⟩ := hrel
    by_cases hlt : i < 1
    · obtain rfl : i = 0 := by omega
      have i8 : ((0 : Nat) : Int) < 1 := by omega
      have HA := Lib.hid (H0.out rfl)
      have HBR := Lib.hid (HBW.out.trans (HA.out.but.below HBW.out.size fun k hk e => by have := HORD.out; omega))
      have HGR := Lib.hid (HG.out.next HBR.out)
      have HNZ := Lib.hid (show 3 ≠ zh ∧ 2 ≠ zh by have h1 := cell_lt (HG.out.1 0 (by decide)); have h2 := cell_lt (HG.out.2 0 (by decide)); have := HORD.out; omega)
      have HSR := Lib.hid (src_bytes (HSL.out.keep HBR.out) (show zh ≥ w.heap.size by have := HORD.out; omega) HBR.out.size)
      have qp : wr.cell? ⟨bp, op, none⟩ = some (.slice A l.length c) := (HBR.out.cell (p := ⟨bp, op, none⟩) hbp).trans HP.out
      go_wp2_with (first
        | (go_at_call 137; refine (write_any zh [] (List.replicate 64 0) 0 l A c wr ⟨But.refl _ _, HA.out.row, HA.out.left⟩ hc hl (by omega) HSR.out HGR.out HNZ.out).mono ?_
           rintro e w5 ⟨rfl, rest5, hh5⟩
           have HH5 := Lib.hid hh5
           clear hh5))
      go_roundw
      case rel => exact ⟨1, by omega, rfl, Lib.hid (fun h => absurd h (by decide)), Lib.hid (fun _ => ⟨rest5, HA.out.but.trans HH5.out.but fun _ _ q => q, HH5.out.row, HH5.out.left⟩)⟩
      case measure => (simp [intOf]) <;> omega
    · obtain rfl : i = 1 := by omega
      have i8 : ¬ ((1 : Nat) : Int) < 1 := by omega
      obtain ⟨rest, hL⟩ := H1.out rfl
      have HL := Lib.hid hL
      have HBR := Lib.hid (HBW.out.trans (hL.but.below HBW.out.size fun k hk e => by have := HORD.out; omega))
      have HGR := Lib.hid (HG.out.next HBR.out)
      have HI7 := Lib.hid ((hL.but.block zi (by have := HORD.out; omega) (by have := HORD.out; omega)).trans HIR.out)
      have hil := (qX HI7.out)
      have HIL := Lib.hid hil
      clear hL hil
      go_wp2_with (first
        | (go_at_call 138; refine (hashSum_any zh l rest wr W1 (by have h := HL.out; rw [qZ, List.nil_append] at h; exact h) hl HGR.out).mono ?_
           rintro e w6 ⟨rfl, hb6⟩
           have HB7 := Lib.hid hb6
           clear hb6)
        | (with_reducible refine at_store ?_
           refine wp_storeM (by rfl) 50 _ _ rfl zi 0 [] (List.replicate 32 (.int .u8 0)) [] (idV (shaS l)) 50 (.agg (idV (shaS l)).toArray) rfl rfl rfl rfl (by simpa using ((HB7.out.block zi HIL.out).trans HI7.out)) rfl (by kernel_rfl) (idV_one _) ?_
           intro W6 hb6 hy6 hs6
           have HB6 := Lib.hid hb6
           have HY6 : Hid (W6.heap[zi]? = some (.cells (idV (shaS l)).toArray 50 (0, 0))) := Lib.hid (by simpa using hy6)
           clear hb6 hy6 hs6))
      refine bodyPost_ret (results_one Tryz.results88 _ _ rfl (qV _ zi 0 50 (idV (shaS l)) _ (fun j u hj => by rw [qZ]; exact (cells_at0 HY6.out j).trans hj) Tryz.underlying50 rfl (by kernel_rfl))) rfl ?_
      exact ⟨rfl, HBR.out.trans ((HB7.out.mono HBR.out.size).trans (HB6.out.below (qT HBR.out.size HB7.out.size) fun k hk e => by have := HORD.out; omega))⟩
end Go.Proofs.YtmlhijlcefogmaaGreatDoor
namespace Go.Proofs.YtmlhijlcefogmaaGreatDoor
open Go.RowKit Go.Maps

def PadGives (l : List UInt8) (w : World) (e : Ending) (w' : World) : Prop := ∃ A' c', e = .returned (.slice A' (padS l).length c') ∧ w'.ownsRow w.heap.size 5 1 (.slice A' (padS l).length c') (padS l).length (idV (padS l)) ∧ Below w.heap.size w w'
theorem padded_any (l : List UInt8) (A : Option Addr) (c : Nat) (w : World) (hs : Sl w w.heap.size A l.length 1 (idV l)) (hl : l.length ≤ 1099511627776) :
    Calls Tryz.prog 146 #[.slice A l.length c] w (PadGives l w) := by
  have HS := Lib.hid hs
  have HB0 := Lib.hid (show Below w.heap.size w (w.alloc (.cells #[] 5)) from (qB _ _).alloc (qR _) _)
  have hzn : zerosN l.length ≤ 63 := by unfold zerosN; omega
  clear hs
  go_enter Tryz.func146, Tryz.ntmps146
  go_upto_region 2 with (first
    | (at_builtin; refine wp_appL8 (by rfl) _ _ 78 rfl w.heap.size 5 (.int .u8 0) 1 1 Tryz.underlying78 info_u8 rfl (by decide) (.slice (some ⟨w.heap.size, 0, none⟩) 0 0) 0 [] rfl (own_made0 w w.heap.size 5 1 (qR _)) A l.length c w.heap.size (idV l) rfl (HS.out.keep HB0.out) (idV_one _) (by unfold maxLen; omega) (by omega) HB0.out.size ?_
       intro v6 w6 ho6 hg6
       obtain ⟨A6, c6, rfl⟩ := own_form' ho6
       have HO := Lib.hid (show w6.ownsRow w.heap.size 5 1 (.slice A6 l.length c6) l.length (idV l) by rw [qZ, List.nil_append] at ho6; exact ho6)
       have HB := Lib.hid (HB0.out.grown hg6 HB0.out.size (fun k e => by have h : w.heap.size = k := by simpa [Value.ownBlock] using e
                                                                         omega))
       clear ho6 hg6
       rw [qZ]))
  have hb3 := HB.out.size
  go_upto_region 3 with (at_builtin; refine wp_app1 rfl _ _ 78 rfl w.heap.size 5 (.int .u8 0) 1 Tryz.underlying78 info_u8 rfl _ _ _ rfl HO.out _ _ rfl rfl ?c1 ?c2 ?c3 ?_)
  case c1 => unfold maxLen; omega
  case c2 => omega
  case c3 => omega
  intro v9 w9 ho9 hg9
  obtain ⟨A9, c9, rfl⟩ := own_form' ho9
  have HO9 := Lib.hid ho9
  have HB9 := Lib.hid (hg9 w.heap.size w (qR _) HB.out)
  clear ho9 hg9
  go_upto_region 3 with fail
  go_loopw [3] (fun t3 wr => ∃ (k : Nat) (A : Option Addr) (c : Nat), k ≤ zerosN l.length ∧ t3 = .slice A (l.length + 1 + k) c ∧ Hid (wr.ownsRow w.heap.size 5 1 (.slice A (l.length + 1 + k) c) (l.length + 1 + k) (idV (l ++ (128 :: List.replicate k 0)))) ∧ Hid (Below w.heap.size w wr)) (fun t3 _ => l.length + 100 - shaLen t3)
  case atStart => exact ⟨0, _, _, Nat.zero_le _, rfl, Lib.hid (by have h := HO9.out; rw [show (128 :: List.replicate 0 0 : List UInt8) = [128] from rfl, idV_snoc]; exact h), HB9⟩
  case round =>
    clear HO HB HO9 HB9 hb3
    obtain ⟨k, A, c, hk, rfl, HO, HB⟩ := hrel
    have hgo := zeros_go hk
    have hb3 := HB.out.size
    by_cases hlt : k < zerosN l.length
    · have h56 := hgo.1 hlt
      have e56 : ((((l.length : Int) + 1 + (k : Int)) % 64) != 56) = true := by rw [bne_iff_ne]; omega
      clear hgo h56
      go_wp2_with (at_builtin; refine wp_app1 rfl _ _ 78 rfl w.heap.size 5 (.int .u8 0) 1 Tryz.underlying78 info_u8 rfl _ _ _ rfl HO.out _ _ rfl rfl ?c1 ?c2 ?c3 ?_)
      case c1 => unfold maxLen; omega
      case c2 => omega
      case c3 => omega
      intro v9 w9 ho9 hg9
      obtain ⟨A9, c9, rfl⟩ := own_form' ho9
      have HO9 := Lib.hid ho9
      have HB9 := Lib.hid (hg9 w.heap.size w (qR _) HB.out)
      clear ho9 hg9
      go_wp2_with fail
      go_roundw
      case rel =>
        refine ⟨k + 1, A9, c9, by omega, rfl, Lib.hid ?_, HB9⟩
        rw [List.replicate_succ', ← List.cons_append, ← List.append_assoc, idV_app]
        exact HO9.out
      case measure => simp only [shaLen]; omega
    · obtain rfl : k = zerosN l.length := by omega
      have h56 : ((((l.length : Int) + 1 + (zerosN l.length : Int)) % 64) != 56) = false := by
        rw [bne_eq_false_iff_eq]
        have h := (not_congr hgo).1 (by omega)
        omega
      clear hgo
      go_upto_region 7 with fail
      clear h56
      go_loopw [5, 3] (fun t5 t3 wr => ∃ (i : Nat) (A : Option Addr) (c : Nat), i ≤ 8 ∧ t5 = .int .i64 (i : Int) ∧ t3 = .slice A (l.length + 1 + zerosN l.length + i) c ∧ Hid (wr.ownsRow w.heap.size 5 1 (.slice A (l.length + 1 + zerosN l.length + i) c) (l.length + 1 + zerosN l.length + i) (idV (l ++ (128 :: List.replicate (zerosN l.length) 0 ++ (lenS l.length).take i)))) ∧ Hid (Below w.heap.size w wr)) (fun t5 _ _ => 8 - (intOf t5).toNat)
      case atStart => exact ⟨0, A, c, Nat.zero_le _, rfl, rfl, by rw [List.take_zero, List.append_nil]; exact HO, HB⟩
      case round =>
        clear HO HB hb3
        obtain ⟨i, A, c, hi, rfl, rfl, HO, HB⟩ := hrel
        have hb3 := HB.out.size
        by_cases hlt : i < 8
        · have i8 : (i : Int) < 8 := by omega
          obtain ⟨s, hs⟩ : ∃ s, 56 - 8 * i = s := ⟨_, rfl⟩
          have es : 56 - 8 * (i : Int) = (s : Int) := by omega
          have hs56 : s ≤ 56 := by omega
          have HSE := Lib.hid hs
          clear hs
          go_wp2_with (at_builtin; refine wp_app1 rfl _ _ 78 rfl w.heap.size 5 (.int .u8 0) 1 Tryz.underlying78 info_u8 rfl _ _ _ rfl HO.out _ _ rfl rfl ?c1 ?c2 ?c3 ?_)
          case c1 => unfold maxLen; omega
          case c2 => omega
          case c3 => omega
          intro v9 w9 ho9 hg9
          obtain ⟨A9, c9, rfl⟩ := own_form' ho9
          have HO9 := Lib.hid ho9
          have HB9 := Lib.hid (hg9 w.heap.size w (qR _) HB.out)
          clear ho9 hg9
          go_wp2_with fail
          go_roundw
          case rel =>
            refine ⟨i + 1, A9, c9, by omega, by go_num, rfl, Lib.hid ?_, HB9⟩
            have h := HO9.out
            rw [← u8_mod, ← idV_snoc] at h
            rw [lenS_take hlt, HSE.out, ← List.append_assoc, ← List.append_assoc]
            rw [List.append_assoc l]
            exact h
          case measure => (simp [intOf]) <;> omega
        · obtain rfl : i = 8 := by omega
          have i8 : ¬ ((8 : Nat) : Int) < 8 := by omega
          go_wp2_with fail
          go_ret
          have hp : (padS l).length = l.length + 1 + zerosN l.length + 8 := padS_length l
          refine ⟨A, c, by rw [hp]; rfl, ?_, HB.out⟩
          rw [hp]
          exact HO.out
end Go.Proofs.YtmlhijlcefogmaaGreatDoor
