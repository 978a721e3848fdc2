/-
  A slice of a slice as one step of a walk, its value named. Over any program; conditions as each says.
  A sum's Write. Conditions: bytes that lie in memory, in another block than the sum.
-/
import Derived.Test.YtmlhijlcefogmaaGreatDoorMerged8
import Derived.Laws.Slices
import Derived.Test.YtmlhijlcefogmaaGreatDoorMerged2
import Derived.Test.YtmlhijlcefogmaaGreatDoorMerged16
import Derived.Test.YtmlhijlcefogmaaGreatDoorShaRounds
import Derived.Test.YtmlhijlcefogmaaGreatDoorMerged12
import Derived.Test.YtmlhijlcefogmaaGreatDoorMerged17
set_option linter.unusedVariables false
set_option linter.unusedSimpArgs false
set_option maxHeartbeats 4000000
set_option maxRecDepth 100000
namespace Go.Proofs.YtmlhijlcefogmaaGreatDoor
open Go.RowKit

section
variable {P : Program} {ρ : Operand → Value} {o : Oper} {w : World}
theorem sizeOf_run {e : TypeId} {size : Nat} (hs : (P.info? e).map (·.size) = some size) (w : World) : (sizeOf e).run P w = .ok size w := by
  cases hq : P.info? e with
  | none => simp [hq] at hs
  | some i =>
    have : i.size = size := by simpa [hq] using hs
    simp [sizeOf, typeInfo, hq, this]
/-- 'x[l:]'. -/
theorem ex_slice_l (t : TypeId) (x lo : Operand) (ho : o.op = .slice t x (some lo) none none) {A : Option Addr} {n c l : Nat} {kl : IntKind} (hx : ρ x = .slice A n c) (hl : ρ lo = .int kl (l : Int))
    (ht : P.underlying t = some (.slice (P.elem t))) {size : Nat} (hs : (P.info? (P.elem t)).map (·.size) = some size) (h1 : l ≤ n) {V : Value} (hV : sliced A l n c size = V) :
    (execOp ρ o).run P w = .ok (.value V) w := by
  subst hV
  have hr := run_slice_l w t A n c ht kl (l : Int) (by omega) (by omega)
  rw [sizeOf_run hs] at hr
  simp only [Result.andThen, Int.toNat_natCast] at hr
  have ha := run_sliceAt_slice w t (.slice A n c) (some (.int kl (l : Int))) none none ht
  rw [hr] at ha
  unfold execOp
  simp only [ho, hx, hl, Option.map_some, Option.map_none, Sem.run_bind, ha, Result.andThen_ok, Sem.run_pure]
end
end Go.Proofs.YtmlhijlcefogmaaGreatDoor
namespace Go.Proofs.YtmlhijlcefogmaaGreatDoor
open Go.RowKit Go.Maps

theorem size_u8s : (Tryz.prog.info? 5).map (·.size) = some 1 := by kernel_rfl
def shaLen : Value → Nat
  | .slice _ n _ => n
  | _ => 0
theorem ex_sliceArr {ρ : Operand → Value} {o : Oper} {w : World} (x lo : Operand) (ho : o.op = .slice 310 x (some lo) none none) {z k f : Nat} (hx : ρ x = .pointer (some ⟨z, k, none⟩)) (hl : ρ lo = .int .i64 (f : Int)) (hf : f < 64) :
    (execOp ρ o).run Tryz.prog w = .ok (.value (.slice (some ⟨z, k + f, none⟩) (64 - f) (64 - f))) w := by
  have hal : Tryz.prog.arrayLen 310 = 64 := by kernel_rfl
  have hr := run_sliceAt_array_l (P := Tryz.prog) w 310 ⟨z, k, none⟩ Tryz.underlying310 .i64 (f : Int) (by omega) (by rw [hal]; omega)
  have he : (Tryz.prog.info? (Tryz.prog.elem 310)).map (·.size) = some 1 := by kernel_rfl
  rw [hal, sizeOf_run he] at hr
  simp only [Result.andThen, Int.toNat_natCast, slicedAt, if_neg (show ¬ 64 = f by omega), Nat.mul_one] at hr
  unfold execOp
  simp only [ho, hx, hl, Option.map_some, Option.map_none, Sem.run_bind, hr, Result.andThen_ok, Sem.run_pure]
  rw [show (⟨z, k, none⟩ : Addr).add f = ⟨z, k + f, none⟩ by unfold Addr.add; split <;> simp_all]
theorem ex_sliceAll {ρ : Operand → Value} {o : Oper} {w : World} (x : Operand) (ho : o.op = .slice 310 x none none none) {z k : Nat} (hx : ρ x = .pointer (some ⟨z, k, none⟩)) :
    (execOp ρ o).run Tryz.prog w = .ok (.value (.slice (some ⟨z, k, none⟩) 64 64)) w := by
  have hal : Tryz.prog.arrayLen 310 = 64 := by kernel_rfl
  have hr := run_sliceAt_array_all (P := Tryz.prog) w 310 ⟨z, k, none⟩ Tryz.underlying310
  have he : (Tryz.prog.info? (Tryz.prog.elem 310)).map (·.size) = some 1 := by kernel_rfl
  rw [hal, sizeOf_run he] at hr
  simp only [Result.andThen, slicedAt, if_neg (show ¬ 64 = 0 by omega), Nat.zero_mul] at hr
  unfold execOp
  simp only [ho, hx, Option.map_none, Sem.run_bind, hr, Result.andThen_ok, Sem.run_pure]
  rw [show (⟨z, k, none⟩ : Addr).add 0 = ⟨z, k, none⟩ by unfold Addr.add; split <;> simp_all]
theorem sliced_from (b q : Nat) {n m c : Nat} (h : n ≤ m) (hc : m ≤ c) : ∃ A2 c2, sliced (some ⟨b, q, none⟩) n m c 1 = .slice A2 (m - n) c2 ∧ m - n ≤ c2 ∧ (n < m → A2 = some ⟨b, q + n, none⟩) := by
  refine ⟨_, _, rfl, by omega, fun h2 => ?_⟩
  rw [if_neg (by omega), Nat.mul_one]
  show some ((⟨b, q, none⟩ : Addr).add n) = _
  rw [show (⟨b, q, none⟩ : Addr).add n = ⟨b, q + n, none⟩ by unfold Addr.add; split <;> simp_all]
theorem ShaG.but {w u : World} {z : Nat} (h : ShaG w) (hb : But (fun k => k = z) w u) (hz : 3 ≠ z ∧ 2 ≠ z) : ShaG u :=
  ⟨fun j hj => (hb.cell (cell_lt (h.1 0 (by decide))) hz.2).trans (h.1 j hj), fun j hj => (hb.cell (cell_lt (h.2 0 (by decide))) hz.1).trans (h.2 j hj)⟩
/-- A sum that is being made, as cells. -/
def hv (S : St8) (rest : List UInt8) (f size : Nat) : List Value := w32V (st8 S) ++ (idV rest ++ [.int .i64 (f : Int), .int .i64 (size : Int)])
theorem hv_length {S : St8} {rest : List UInt8} {f size : Nat} (h : rest.length = 64) : (hv S rest f size).length = 74 := by
  simp [hv, w32V, st8, idV, h]
theorem hv_fill {S : St8} {rest : List UInt8} {f size : Nat} (h : rest.length = 64) : (hv S rest f size)[72]? = some (.int .i64 (f : Int)) := by
  unfold hv
  rw [List.getElem?_append_right (by simp [w32V, st8]), List.getElem?_append_right (by simp [w32V, st8, idV, h])]
  simp [w32V, st8, idV, h]
theorem hv_size {S : St8} {rest : List UInt8} {f size : Nat} (h : rest.length = 64) : (hv S rest f size)[73]? = some (.int .i64 (size : Int)) := by
  unfold hv
  rw [List.getElem?_append_right (by simp [w32V, st8]), List.getElem?_append_right (by simp [w32V, st8, idV, h])]
  simp [w32V, st8, idV, h]
theorem hv_byte {S : St8} {rest : List UInt8} {f size j : Nat} (h : rest.length = 64) (hj : j < 64) : (hv S rest f size)[8 + j]? = some (.int .u8 (byteAt rest j : Int)) := by
  unfold hv
  rw [List.getElem?_append_right (by simp [w32V, st8]), List.getElem?_append_left (by simp [w32V, st8, idV, h]; omega)]
  simp only [w32V, List.length_map, st8, List.length_cons, List.length_nil]
  unfold idV byteAt
  rw [List.getElem?_map, show 8 + j - (0 + 1 + 1 + 1 + 1 + 1 + 1 + 1 + 1) = j by omega, List.getElem?_eq_getElem (by omega), List.getD_eq_getElem?_getD, List.getElem?_eq_getElem (by omega)]
  rfl
theorem hv_state {S : St8} {rest : List UInt8} {f size : Nat} (j : Nat) (v : Value) (hj : (w32V (st8 S))[j]? = some v) : (hv S rest f size)[j]? = some v := by
  unfold hv
  rw [List.getElem?_append_left (List.getElem?_eq_some_iff.1 hj).1]
  exact hj
theorem hv_setFill {S : St8} {rest : List UInt8} {f size g : Nat} (h : rest.length = 64) : (hv S rest f size).toArray.setIfInBounds 72 (.int .i64 (g : Int)) = (hv S rest g size).toArray := by
  rw [List.setIfInBounds_toArray]
  congr 1
  unfold hv
  rw [List.set_append, if_neg (by simp [w32V, st8]), List.set_append, if_neg (by simp [w32V, st8, idV, h])]
  simp [w32V, st8, idV, h]
theorem hv_setSize {S : St8} {rest : List UInt8} {f size g : Nat} (h : rest.length = 64) : (hv S rest f size).toArray.setIfInBounds 73 (.int .i64 (g : Int)) = (hv S rest f g).toArray := by
  rw [List.setIfInBounds_toArray]
  congr 1
  unfold hv
  rw [List.set_append, if_neg (by simp [w32V, st8]), List.set_append, if_neg (by simp [w32V, st8, idV, h])]
  simp [w32V, st8, idV, h]
/-- The rest with bytes laid over it. -/
def overS (rest : List UInt8) (f : Nat) (b : List UInt8) : List UInt8 := rest.take f ++ (b ++ rest.drop (f + b.length))
theorem overS_length {rest b : List UInt8} {f : Nat} (h : rest.length = 64) (hf : f + b.length ≤ 64) : (overS rest f b).length = 64 := by
  unfold overS; simp; omega
theorem hv_copy {S : St8} {rest b : List UInt8} {f size : Nat} (h : rest.length = 64) (hf : f + b.length ≤ 64) :
    ((hv S rest f size).toArray.toList.take (8 + f) ++ (idV b ++ (hv S rest f size).toArray.toList.drop (8 + f + (idV b).length))).toArray = (hv S (overS rest f b) f size).toArray := by
  congr 1
  have h8 : (w32V (st8 S)).length = 8 := rfl
  have hb : (idV b).length = b.length := by simp [idV]
  have hr : (idV rest).length = 64 := by simp [idV, h]
  show (hv S rest f size).take (8 + f) ++ (idV b ++ (hv S rest f size).drop (8 + f + (idV b).length)) = _
  unfold hv overS
  rw [hb, List.take_append, List.drop_append, h8, show 8 + f - 8 = f by omega, show 8 + f + b.length - 8 = f + b.length by omega, List.take_of_length_le (by omega), List.drop_eq_nil_of_le (by omega), List.nil_append, List.take_append, List.drop_append, hr,
    show f - 64 = 0 by omega, show f + b.length - 64 = 0 by omega, List.take_zero, List.drop_zero, List.append_nil]
  unfold idV
  simp [List.map_take, List.map_drop]
/-- What is left over of bytes: the rest begins with it. -/
def LeftS (D rest : List UInt8) : Prop := rest.length = 64 ∧ ∀ j, j < D.length % 64 → byteAt rest j = byteAt D (64 * (D.length / 64) + j)
theorem byteAt_over {rest b : List UInt8} {f j : Nat} (h : rest.length = 64) (hf : f + b.length ≤ 64) (hj : j < f + b.length) : byteAt (overS rest f b) j = if j < f then byteAt rest j else byteAt b (j - f) := by
  unfold overS byteAt
  rw [List.getD_eq_getElem?_getD]
  split
  · rename_i h1
    rw [List.getElem?_append_left (by simp; omega), List.getElem?_take_of_lt h1, List.getD_eq_getElem?_getD]
  · rename_i h1
    rw [List.getElem?_append_right (by simp; omega), List.getElem?_append_left (by simp; omega), List.getD_eq_getElem?_getD, List.length_take, Nat.min_eq_left (by omega)]
theorem byteAt_app2 {l m : List UInt8} {i : Nat} (h : l.length ≤ i) : byteAt (l ++ m) i = byteAt m (i - l.length) := by
  unfold byteAt; rw [List.getD_eq_getElem?_getD, List.getD_eq_getElem?_getD, List.getElem?_append_right h]
theorem over_app {D rest b : List UInt8} (h : LeftS D rest) (hf : D.length % 64 + b.length ≤ 64) {j : Nat} (hj : j < D.length % 64 + b.length) : byteAt (overS rest (D.length % 64) b) j = byteAt (D ++ b) (64 * (D.length / 64) + j) := by
  rw [byteAt_over h.1 hf hj]
  have hdm := Nat.div_add_mod D.length 64
  split
  · rename_i h1
    rw [h.2 j h1, byteAt_app (by omega)]
  · rename_i h1
    rw [byteAt_app2 (by omega)]
    congr 1
    omega
theorem left_more {D rest b : List UInt8} (h : LeftS D rest) (hf : D.length % 64 + b.length < 64) : LeftS (D ++ b) (overS rest (D.length % 64) b) ∧ (D ++ b).length % 64 = D.length % 64 + b.length ∧ hashS (D ++ b) firstS ((D ++ b).length / 64) = hashS D firstS (D.length / 64) := by
  have hdm := Nat.div_add_mod D.length 64
  have e1 : (D ++ b).length / 64 = D.length / 64 := by rw [List.length_append]; omega
  have e2 : (D ++ b).length % 64 = D.length % 64 + b.length := by rw [List.length_append]; omega
  refine ⟨⟨overS_length h.1 (by omega), fun j hj => ?_⟩, e2, ?_⟩
  · rw [e1]; exact over_app h (by omega) (by omega)
  · rw [e1]; exact hashS_app D b firstS _ (by omega)
theorem left_full {D rest b : List UInt8} (h : LeftS D rest) (hf : D.length % 64 + b.length = 64) : LeftS (D ++ b) (overS rest (D.length % 64) b) ∧ (D ++ b).length % 64 = 0 ∧ hashS (D ++ b) firstS ((D ++ b).length / 64) = blockS (overS rest (D.length % 64) b) 0 (hashS D firstS (D.length / 64)) := by
  have hdm := Nat.div_add_mod D.length 64
  have e1 : (D ++ b).length / 64 = D.length / 64 + 1 := by rw [List.length_append]; omega
  have e2 : (D ++ b).length % 64 = 0 := by rw [List.length_append]; omega
  refine ⟨⟨overS_length h.1 (by omega), fun j hj => by omega⟩, e2, ?_⟩
  rw [e1]
  show blockS (D ++ b) (64 * (D.length / 64)) (hashS (D ++ b) firstS (D.length / 64)) = _
  rw [hashS_app D b firstS _ (by omega)]
  refine (blockS_congr (fun i hi => ?_) _).symm
  rw [qZ]
  exact over_app h (by omega) (by omega)
/-- A sum that is being made, in memory: what was written; nothing but its block has changed. -/
structure HashAt (w : World) (z : Nat) (D rest : List UInt8) (size : Nat) (wx : World) : Prop where
  but : But (fun k => k = z) w wx
  row : wx.heap[z]? = some (.cells (hv (hashS D firstS (D.length / 64)) rest (D.length % 64) size).toArray 312 (0, 0))
  left : LeftS D rest
theorem HashAt.lt {w : World} {z : Nat} {D rest : List UInt8} {size : Nat} {wx : World} (h : HashAt w z D rest size wx) : z < wx.heap.size := (qX h.row)
theorem HashAt.keep {w : World} {z : Nat} {D rest : List UInt8} {size : Nat} {wx wy : World} (h : HashAt w z D rest size wx) (hb : Below wx.heap.size wx wy) : HashAt w z D rest size wy := ⟨h.but.andBelow hb, (hb.block z h.lt).trans h.row, h.left⟩
theorem but_setRow {X : Nat → Prop} {a b : World} {g : Nat} (h : But X a b) (hx : X g) (cs : Array Value) : But X a (b.setRow g cs) :=
  h.trans (Y := X) ⟨rfl, rfl, rfl, by simp [World.setRow], fun k _ hk => setRow_other b g k cs (fun e => hk (by rw [e]; exact hx))⟩ fun _ _ q => q
theorem write_any (z : Nat) (D rest : List UInt8) (size : Nat) (l : List UInt8) (A : Option Addr) (c : Nat) (w : World) (h : HashAt w z D rest size w) (hc : l.length ≤ c) (hl : l.length ≤ 1099511627776) (hsz : size ≤ 1099511627776)
    (hs : 0 < l.length → ∃ b off, A = some ⟨b, off, none⟩ ∧ b < w.heap.size ∧ b ≠ z ∧ ∀ j (hj : j < l.length), w.cell? ⟨b, off + j, none⟩ = some (.int .u8 (byteAt l j : Int))) (hg : ShaG w) (hgz : 3 ≠ z ∧ 2 ≠ z) :
    Calls Tryz.prog 137 #[.pointer (some ⟨z, 0, none⟩), .slice A l.length c] w fun e w' => e = .returned (.tuple #[]) ∧ ∃ rest', HashAt w z (D ++ l) rest' (size + l.length) w' := by
  obtain ⟨b, off, hb⟩ : ∃ b off, 0 < l.length → A = some ⟨b, off, none⟩ ∧ b < w.heap.size ∧ b ≠ z ∧ ∀ j (hj : j < l.length), w.cell? ⟨b, off + j, none⟩ = some (.int .u8 (byteAt l j : Int)) := by
    rcases Nat.eq_zero_or_pos l.length with h0 | h0
    · exact ⟨0, 0, fun h1 => by omega⟩
    · obtain ⟨b, off, h1⟩ := hs h0; exact ⟨b, off, fun _ => h1⟩
  have HB := Lib.hid hb; have HG := Lib.hid hg; have HH := Lib.hid h; have HGZ := Lib.hid hgz
  have c73 : w.cell? ⟨z, 73, none⟩ = some (.int .i64 (size : Int)) := (cells_at0 h.row 73).trans (hv_size h.left.1)
  have f73 : w.frozen? ⟨z, 73, none⟩ = false := frozen_of_row _ _ _ _ _ h.row
  have e1 : IntKind.i64.wrap ((size : Int) + (l.length : Int)) = ((size + l.length : Nat) : Int) := by rw [IntWalk.i64_in _ (by omega)]; omega
  clear hb hg h hs hgz
  go_enter Tryz.func137, Tryz.ntmps137
  go_upto_region 2 with fail
  clear c73 f73 e1
  have HW1 : Hid (HashAt w z D rest (size + l.length) (w.setCell ⟨z, 73, none⟩ (.int .i64 ((size + l.length : Nat) : Int)))) := Lib.hid ⟨HH.out.but.setCell (fun _ => rfl) _, by rw [← hv_setSize HH.out.left.1]; exact set_blk HH.out.row _, HH.out.left⟩
  go_loopw [1] (fun t1 wr => ∃ (p : Nat) (rest' : List UInt8) (A' : Option Addr) (c' : Nat), p ≤ l.length ∧ t1 = .slice A' (l.length - p) c' ∧ l.length - p ≤ c' ∧ (p < l.length → A' = some ⟨b, off + p, none⟩) ∧ Hid (HashAt w z (D ++ l.take p) rest' (size + l.length) wr)) (fun t1 _ => shaLen t1)
  case atStart => exact ⟨0, rest, A, c, Nat.zero_le _, rfl, hc, fun h0 => (HB.out h0).1, by rw [List.take_zero, List.append_nil]; exact HW1⟩
  case round =>
    clear HW1
    obtain ⟨p, rest', A', c', hp, rfl, hc', hA', HH⟩ := hrel
    by_cases hlt : p < l.length
    · obtain ⟨m, hm⟩ : ∃ m, l.length - p = m := ⟨_, rfl⟩
      obtain rfl := hA' hlt
      obtain ⟨D', hD⟩ : ∃ D', D ++ l.take p = D' := ⟨_, rfl⟩
      obtain ⟨q, hq⟩ : ∃ q, off + p = q := ⟨_, rfl⟩
      rw [hD] at HH
      rw [hm] at hc' ⊢
      rw [hq]
      have HMQ := Lib.hid (show l.length - p = m ∧ off + p = q ∧ D ++ l.take p = D' from ⟨hm, hq, hD⟩)
      have i1 : (0 : Int) < (m : Int) := by omega
      have hm0 : 0 < m := by omega
      have hml : m ≤ 1099511627776 := by omega
      obtain ⟨f, hf⟩ : ∃ f, D'.length % 64 = f := ⟨_, rfl⟩
      have hf64 : f < 64 := by rw [← hf]; exact Nat.mod_lt _ (by decide)
      have HF := Lib.hid hf
      clear hA' hm hq hD hf
      have HLN := Lib.hid HH.out.left.1
      have q72 : wr.cell? ⟨z, 72, none⟩ = some (.int .i64 (f : Int)) := by rw [← HF.out]; exact (cells_at0 HH.out.row 72).trans (hv_fill HLN.out)
      have hzl := HH.out.lt
      have F72 := Wg.cell q72 hzl
      clear q72
      have e64 : ¬ (64 : Nat) = f := by omega
      go_upto_region 3 with fail
      refine wp_region_tail_wg 9 (by kernel_rfl) (by kernel_rfl) (by kernel_rfl) (by kernel_rfl) (by kernel_rfl) ?_
      simp only [List.take_succ_cons, List.take_zero, List.drop_succ_cons, List.drop_zero]
      repeat (first
        | go_big_quiet_skip
        | (go_big_quiet_want
           first
             | (refine quiet_val (fun w' _ => ex_sliceArr _ _ rfl (z := z) (k := 8) (f := f) rfl rfl hf64) ?_
                go_big_quiet_on
                go_frame; try simp only [nTF])
             | (go_big_quiet_op
                first
                  | go_big_quiet_on
                  | go_big_quiet_call (first | (fail)))))
      refine wpQuiet_nil ?_
      rintro w' ⟨kk, rfl⟩
      have hk9 := kk.2
      generalize kk.val = w9 at *
      clear kk
      clear F72
      have HH9 := Lib.hid (HH.out.keep hk9.below)
      obtain ⟨n, hn⟩ : ∃ n, Nat.min m (64 - f) = n := ⟨_, rfl⟩
      have hnm : n ≤ m ∧ f + n ≤ 64 ∧ 0 < n ∧ (f + n < 64 → n = m) := by rw [← hn]; simp only [Nat.min_def]; split <;> omega
      obtain ⟨bs, hbs⟩ : ∃ bs, (l.drop p).take n = bs := ⟨_, rfl⟩
      have hbl : bs.length = n := by rw [← hbs, List.length_take, List.length_drop]; have := HMQ.out.1; omega
      have HBS := Lib.hid hbs
      have HSRC := Lib.hid (fun (u : World) (hu : But (fun k => k = z) w u) (j : Nat) (v : Value) (hj : (idV bs)[j]? = some v) => (show u.cell? ((⟨b, q, none⟩ : Addr).add j) = some v from by
        have hj2 : j < bs.length := by have h := (List.getElem?_eq_some_iff.1 hj).1; simpa [idV] using h
        have hb := HB.out (by omega)
        have e1 : (⟨b, q, none⟩ : Addr).add j = ⟨b, off + (p + j), none⟩ := by
          have e2 : off + p = q := HMQ.out.2.1
          rw [show (⟨b, q, none⟩ : Addr).add j = ⟨b, q + j, none⟩ by unfold Addr.add; split <;> simp_all, ← e2, Nat.add_assoc]
        rw [e1, hu.cell hb.2.1 hb.2.2.1, hb.2.2.2 (p + j) (by have := HMQ.out.1; omega), ← hj]
        unfold idV byteAt
        rw [List.getElem?_map, ← HBS.out, List.getElem?_take_of_lt (by omega), List.getElem?_drop, List.getD_eq_getElem?_getD, List.getElem?_eq_getElem (by have := HMQ.out.1; omega)]
        rfl))
      clear hbs hlt
      have HNE := Lib.hid hn
      clear hn
      have HRW : Hid (w9.heap[z]? = some (.cells (hv (hashS D' firstS (D'.length / 64)) rest' f (size + l.length)).toArray 312 (0, 0))) := Lib.hid (by have h := HH9.out.row; rw [HF.out] at h; exact h)
      have hcp := run_copy_row (P := Tryz.prog) w9 78 78 3 5 z (8 + f) (64 - f) (64 - f) ⟨b, q, none⟩ m c' (hv (hashS D' firstS (D'.length / 64)) rest' f (size + l.length)).toArray 312 (idV bs) Tryz.underlying78 size_u8s HRW.out (by simp [idV, hbl, HNE.out]) (HSRC.out _ HH9.out.but) (by rw [List.size_toArray, hv_length HLN.out]; simp [idV]; omega) (idV_one _)
      rw [List.append_assoc, hv_copy HLN.out (show f + bs.length ≤ 64 by omega), show (idV bs).length = n by simp [idV, hbl]] at hcp
      obtain ⟨w8, hw8⟩ : ∃ u, w9.setRow z (hv (hashS D' firstS (D'.length / 64)) (overS rest' f bs) f (size + l.length)).toArray = u := ⟨_, rfl⟩
      rw [hw8] at hcp
      have HB8 : Hid (But (fun k => k = z) w w8) := Lib.hid (by rw [← hw8]; exact but_setRow HH9.out.but rfl _)
      have HR8 : Hid (w8.heap[z]? = some (.cells (hv (hashS D' firstS (D'.length / 64)) (overS rest' f bs) f (size + l.length)).toArray 312 (0, 0))) := Lib.hid (by rw [← hw8]; exact setRow_heap _ _ _ _ _ _ HRW.out)
      clear hw8
      have HOL := Lib.hid (overS_length HLN.out (show f + bs.length ≤ 64 by omega))
      have c72 : w8.cell? ⟨z, 72, none⟩ = some (.int .i64 (f : Int)) := (cells_at0 HR8.out 72).trans (hv_fill HOL.out)
      have f72 : w8.frozen? ⟨z, 72, none⟩ = false := frozen_of_row _ _ _ _ _ HR8.out
      have e2 : IntKind.i64.wrap ((f : Int) + (n : Int)) = ((f + n : Nat) : Int) := by rw [IntWalk.i64_in _ (by omega)]; omega
      unfold goInt at hcp
      go_upto_region 5 with fail
      obtain ⟨w7, hw7⟩ : ∃ u, w8.setCell ⟨z, 72, none⟩ (.int .i64 ((f : Int) + (n : Int))) = u := ⟨_, rfl⟩
      rw [hw7]
      have HB7 : Hid (But (fun k => k = z) w w7) := Lib.hid (by rw [← hw7]; exact HB8.out.setCell (fun _ => rfl) _)
      have HR7 : Hid (w7.heap[z]? = some (.cells (hv (hashS D' firstS (D'.length / 64)) (overS rest' f bs) (f + n) (size + l.length)).toArray 312 (0, 0))) := Lib.hid (by rw [← hw7, ← hv_setFill HOL.out]; exact set_blk HR8.out _)
      have c72 : w7.cell? ⟨z, 72, none⟩ = some (.int .i64 ((f + n : Nat) : Int)) := (cells_at0 HR7.out 72).trans (hv_fill HOL.out)
      obtain ⟨A2, c2, hsv, hc2, hA2⟩ := sliced_from b q hnm.1 hc'
      have HSV := Lib.hid hsv; have HA2 := Lib.hid hA2; have HC2 := Lib.hid hc2
      obtain ⟨fn, hfn⟩ : ∃ x, f + n = x := ⟨_, rfl⟩
      have HFN := Lib.hid hfn
      rw [hfn] at c72 HR7
      clear hw7 hcp f72 e2 HR8 HB8 hsv hA2 hc2 hfn HNE
      go_upto_region 6 with (refine wp_val (by rfl) (ex_slice_l 78 _ _ rfl rfl rfl Tryz.underlying78 size_u8s hnm.1 HSV.out) ?_)
      have HNX := Lib.hid (show D ++ l.take (p + n) = D' ++ bs by rw [← HMQ.out.2.2, ← HBS.out, List.append_assoc, List.take_add])
      have HPN := Lib.hid (show m - n = l.length - (p + n) ∧ p + n ≤ l.length ∧ off + (p + n) = q + n by have := HMQ.out; omega)
      by_cases hfull : fn = 64
      · have i64 : ((fn : Int) == 64) = true := by rw [beq_iff_eq]; omega
        have HZ7 := (qX HR7.out)
        have hE1 := enE Tryz.func187 rfl
        have HFK := Lib.hid (fun (u : World) (hu : Below w7.heap.size w7 u) => (show u.rangeAt z 0 (w32V (st8 (hashS D' firstS (D'.length / 64)))) from fun j v hj => by rw [qZ]; exact (hu.cell (p := ⟨z, j, none⟩) HZ7).trans ((cells_at0 HR7.out j).trans (hv_state j v hj))))
        go_upto_region 7 with fail
        clear c72
        refine rN 9 (fun u => u.rangeAt z 0 (w32V (st8 (hashS D' firstS (D'.length / 64))))) (HFK.out _ (qD w7.heap.size w7)) fun hF0 => ?_
        refine tw 0 (.pointer (some ⟨z, 0, none⟩)) ?_
        go_frame
        refine tw 1 (.pointer (some ⟨z, 0, none⟩)) ?_
        go_frame
        refine tw 2 (.pointer (some ⟨z, 0, none⟩)) ?_
        go_frame
        refine tw 3 (.pointer (some ⟨z, 0, none⟩)) ?_
        go_frame
        refine tl 4 (.agg (w32V (st8 (hashS D' firstS (D'.length / 64)))).toArray) rfl hF0 (fun w' hw' => ex_load 269 _ rfl (p := ⟨z, 0, none⟩) rfl (qV w' _ _ _ (w32V (st8 (hashS D' firstS (D'.length / 64)))) _ hw' Tryz.underlying269 rfl (by kernel_rfl))) ?_
        go_frame
        refine tw 5 (.pointer (some ⟨z, 0, none⟩)) ?_
        go_frame
        refine tw 6 (.pointer (some ⟨z, 0, none⟩)) ?_
        go_frame
        refine tw 7 (.pointer (some ⟨z, 8, none⟩)) ?_
        go_frame
        refine tk 8 (.slice (some ⟨z, 8, none⟩) 64 64) rfl (fun w' hw' => ex_sliceAll _ rfl rfl) ?_
        go_frame
        refine ta 9 ?_
        refine tc #[.agg (w32V (st8 (hashS D' firstS (D'.length / 64)))).toArray, .slice (some ⟨z, 8, none⟩) 64 64] hE1 rfl ?_
        have hz6 := ((qD w7.heap.size w7).block z HZ7).trans HR7.out
        refine (rounds_any (hashS D' firstS (D'.length / 64)) z 8 64 (overS rest' f bs) w7.drew (ok_hash first_ok _) HOL.out (qX hz6) (fun j hj => (cells_at0 hz6 (8 + j)).trans (hv_byte HOL.out hj)) (qR _) (HG.out.but HB7.out.drew HGZ.out)).mono ?_
        rintro e w5 ⟨rfl, hb5⟩
        have hb75 := (qD w7.heap.size w7).trans hb5
        have HR5 := Lib.hid ((hb75.block z HZ7).trans HR7.out)
        have HB5 := Lib.hid (HB7.out.andBelow hb75)
        have HFq := HFK.out w5 hb75
        refine ⟨_, rfl, fun _ _ => HFq, ?_⟩
        go_frame
        refine tw 10 (.pointer (some ⟨z, 0, none⟩)) ?_
        go_frame
        refine tw 11 (.pointer (some ⟨z, 0, none⟩)) ?_
        go_frame
        refine ta 12 ?_
        refine wpOp_storeM _ rfl (by kernel_rfl) 269 _ _ rfl z 0 [] (w32V (st8 (hashS D' firstS (D'.length / 64)))) (idV (overS rest' f bs) ++ [.int .i64 (fn : Int), .int .i64 ((size + l.length : Nat) : Int)]) (w32V (st8 (blockS (overS rest' f bs) 0 (hashS D' firstS (D'.length / 64))))) 312 (.agg (w32V (st8 (blockS (overS rest' f bs) 0 (hashS D' firstS (D'.length / 64))))).toArray) rfl rfl rfl rfl HR5.out rfl (by kernel_rfl) (w32V_one _) ?_
        intro w4 hb4 hy4 hs4
        have HB4 := Lib.hid (HB5.out.trans hb4 fun _ _ q => q)
        have HR4 : Hid (w4.heap[z]? = some (.cells (hv (blockS (overS rest' f bs) 0 (hashS D' firstS (D'.length / 64))) (overS rest' f bs) fn (size + l.length)).toArray 312 (0, 0))) := Lib.hid hy4
        clear hb4 hy4 hs4 hb75 hb5
        refine ⟨fun h => absurd h (by decide), ?_⟩
        go_frame
        refine wpAnyN_done (by kernel_rfl) ?_ _
        go_upto_region 8 with fail
        have c72 : w4.cell? ⟨z, 72, none⟩ = some (.int .i64 (fn : Int)) := (cells_at0 HR4.out 72).trans (hv_fill HOL.out)
        have f72 : w4.frozen? ⟨z, 72, none⟩ = false := frozen_of_row _ _ _ _ _ HR4.out
        have HFL := Lib.hid (left_full (b := bs) HH.out.left (by have := HF.out; have := HFN.out; omega))
        go_wp2_with fail
        go_roundw
        case rel =>
          refine ⟨p + n, overS rest' f bs, A2, c2, HPN.out.2.1, by rw [HPN.out.1], by have := HPN.out.1; have := HC2.out; omega, fun h => by rw [HA2.out (by have := HPN.out.1; omega), HPN.out.2.2], Lib.hid ?_⟩
          rw [HNX.out]
          refine ⟨HB4.out.setCell (fun _ => rfl) _, ?_, by have h := HFL.out.1; rw [HF.out] at h; exact h⟩
          rw [HFL.out.2.1, HFL.out.2.2, HF.out, ← hv_setFill HOL.out]
          exact set_blk HR4.out _
        case measure => simp only [shaLen]; omega
      · have i64 : ((fn : Int) == 64) = false := by rw [beq_eq_false_iff_ne]; omega
        have HFL := Lib.hid (left_more (b := bs) HH.out.left (by have := HF.out; have := HFN.out; omega))
        go_wp2_with fail
        go_roundw
        case rel =>
          refine ⟨p + n, overS rest' f bs, A2, c2, HPN.out.2.1, by rw [HPN.out.1], by have := HPN.out.1; have := HC2.out; omega, fun h => by rw [HA2.out (by have := HPN.out.1; omega), HPN.out.2.2], Lib.hid ?_⟩
          rw [HNX.out]
          refine ⟨HB7.out, ?_, by have h := HFL.out.1; rw [HF.out] at h; exact h⟩
          rw [HFL.out.2.1, HFL.out.2.2, HF.out, hbl, HFN.out]
          exact HR7.out
        case measure => simp only [shaLen]; omega
    · have i1 : ¬ (0 : Int) < ((l.length - p : Nat) : Int) := by omega
      obtain rfl : p = l.length := by omega
      go_wp2_with fail
      go_end0
      rw [List.take_length] at HH
      exact ⟨rfl, _, HH.out⟩
end Go.Proofs.YtmlhijlcefogmaaGreatDoor
