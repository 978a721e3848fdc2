/-
  A sum's Write. Conditions: bytes that lie in memory, in another block than the sum.
-/
import Derived.Test.YthjaepmfkgejkaaGreatDoorMerged1
import Derived.Test.YthjaepmfkgejkaaGreatDoorMerged4
import Derived.Test.YthjaepmfkgejkaaGreatDoorShaRounds
import Derived.Test.YthjaepmfkgejkaaGreatDoorMerged11
import Derived.Test.YthjaepmfkgejkaaGreatDoorMerged3
import Derived.Test.YthjaepmfkgejkaaGreatDoorMerged13
set_option linter.unusedVariables false
set_option linter.unusedSimpArgs false
set_option maxHeartbeats 4000000
set_option maxRecDepth 100000
namespace Go.Proofs.YthjaepmfkgejkaaGreatDoor
open Lib (hid)
open Go.RowKit Go.Maps
theorem size_u8s : (Tryz.prog.info? 5).map (·.size) = some 1 := by kernel_rfl
def u6 : Value → Nat
  | .slice _ n _ => n
  | _ => 0
theorem ex_sliceArr {ρ : Operand → Value} {o : Oper} {w : World} (x lo : Operand) (ho : o.op = .slice 149 x (some lo) none none) {z k f : Nat} (hx : ρ x = .pointer (some ⟨z, k, none⟩)) (hl : ρ lo = .int .i64 (f : Int)) (hf : f < 64) :
    (execOp ρ o).run Tryz.prog w = .ok (.value (.slice (some ⟨z, k + f, none⟩) (64 - f) (64 - f))) w := by
  have hal : Tryz.prog.arrayLen 149 = 64 := by kernel_rfl
  have hr := run_sliceAt_array_l (P := Tryz.prog) w 149 ⟨z, k, none⟩ Tryz.underlying149 .i64 (f : Int) (by omega) (by rw [hal]; omega)
  have he : (Tryz.prog.info? (Tryz.prog.elem 149)).map (·.size) = some 1 := by kernel_rfl
  rw [hal, JS he] at hr
  simp only [Result.andThen, Int.toNat_natCast, slicedAt, if_neg (show ¬ 64 = f by omega), Nat.mul_one] at hr
  unfold execOp
  simp only [ho, hx, hl, Option.map_some, Option.map_none, Sem.run_bind, hr, Result.andThen_ok, Sem.run_pure]
  rw [show (⟨z, k, none⟩ : Addr).add f = ⟨z, k + f, none⟩ by unfold Addr.add; split <;> simp_all]
theorem ex_sliceAll {ρ : Operand → Value} {o : Oper} {w : World} (x : Operand) (ho : o.op = .slice 149 x none none none) {z k : Nat} (hx : ρ x = .pointer (some ⟨z, k, none⟩)) :
    (execOp ρ o).run Tryz.prog w = .ok (.value (.slice (some ⟨z, k, none⟩) 64 64)) w := by
  have hal : Tryz.prog.arrayLen 149 = 64 := by kernel_rfl
  have hr := run_sliceAt_array_all (P := Tryz.prog) w 149 ⟨z, k, none⟩ Tryz.underlying149
  have he : (Tryz.prog.info? (Tryz.prog.elem 149)).map (·.size) = some 1 := by kernel_rfl
  rw [hal, JS he] at hr
  simp only [Result.andThen, slicedAt, if_neg (show ¬ 64 = 0 by omega), Nat.zero_mul] at hr
  unfold execOp
  simp only [ho, hx, Option.map_none, Sem.run_bind, hr, Result.andThen_ok, Sem.run_pure]
  rw [show (⟨z, k, none⟩ : Addr).add 0 = ⟨z, k, none⟩ by unfold Addr.add; split <;> simp_all]
theorem sliced_from (b q : Nat) {n m c : Nat} (h : n ≤ m) (hc : m ≤ c) : ∃ A2 c2, sliced (some ⟨b, q, none⟩) n m c 1 = .slice A2 (m - n) c2 ∧ m - n ≤ c2 ∧ (n < m → A2 = some ⟨b, q + n, none⟩) := by
  refine ⟨_, _, rfl, by omega, fun h2 => ?_⟩
  rw [if_neg (by omega), Nat.mul_one]
  show some ((⟨b, q, none⟩ : Addr).add n) = _
  rw [show (⟨b, q, none⟩ : Addr).add n = ⟨b, q + n, none⟩ by unfold Addr.add; split <;> simp_all]
theorem ShaG.but {w u : World} {z : Nat} (h : ShaG w) (hb : But (fun k => k = z) w u) (hz : 1 ≠ z ∧ 0 ≠ z) : ShaG u :=
  ⟨fun j hj => (hb.cell (Jq (h.1 0 (by decide))) hz.2).trans (h.1 j hj), fun j hj => (hb.cell (Jq (h.2 0 (by decide))) hz.1).trans (h.2 j hj)⟩
def hv (S : St8) (rest : List UInt8) (f size : Nat) : List Value := jg (st8 S) ++ (idV rest ++ [.int .i64 (f : Int), .int .i64 (size : Int)])
theorem vD {S : St8} {rest : List UInt8} {f size : Nat} (h : rest.length = 64) : (hv S rest f size).length = 74 := by
  simp [hv, jg, st8, idV, h]
theorem Us {S : St8} {rest : List UInt8} {f size : Nat} (h : rest.length = 64) : (hv S rest f size)[72]? = some (.int .i64 (f : Int)) := by
  unfold hv
  rw [List.getElem?_append_right (by simp [jg, st8]), List.getElem?_append_right (by simp [jg, st8, idV, h])]
  simp [jg, st8, idV, h]
theorem hv_size {S : St8} {rest : List UInt8} {f size : Nat} (h : rest.length = 64) : (hv S rest f size)[73]? = some (.int .i64 (size : Int)) := by
  unfold hv
  rw [List.getElem?_append_right (by simp [jg, st8]), List.getElem?_append_right (by simp [jg, st8, idV, h])]
  simp [jg, st8, idV, h]
theorem hv_byte {S : St8} {rest : List UInt8} {f size j : Nat} (h : rest.length = 64) (hj : j < 64) : (hv S rest f size)[8 + j]? = some (.int .u8 (kM rest j : Int)) := by
  unfold hv
  rw [List.getElem?_append_right (by simp [jg, st8]), List.getElem?_append_left (by simp [jg, st8, idV, h]; omega)]
  simp only [jg, List.length_map, st8, List.length_cons, List.length_nil]
  unfold idV kM
  rw [List.getElem?_map, show 8 + j - (0 + 1 + 1 + 1 + 1 + 1 + 1 + 1 + 1) = j by omega, List.getElem?_eq_getElem (by omega), List.getD_eq_getElem?_getD, List.getElem?_eq_getElem (by omega)]
  rfl
theorem hv_state {S : St8} {rest : List UInt8} {f size : Nat} (j : Nat) (v : Value) (hj : (jg (st8 S))[j]? = some v) : (hv S rest f size)[j]? = some v := by
  unfold hv
  rw [List.getElem?_append_left (List.getElem?_eq_some_iff.1 hj).1]
  exact hj
theorem ql {S : St8} {rest : List UInt8} {f size g : Nat} (h : rest.length = 64) : (hv S rest f size).toArray.setIfInBounds 72 (.int .i64 (g : Int)) = (hv S rest g size).toArray := by
  rw [List.setIfInBounds_toArray]
  congr 1
  unfold hv
  rw [List.set_append, if_neg (by simp [jg, st8]), List.set_append, if_neg (by simp [jg, st8, idV, h])]
  simp [jg, st8, idV, h]
theorem hv_setSize {S : St8} {rest : List UInt8} {f size g : Nat} (h : rest.length = 64) : (hv S rest f size).toArray.setIfInBounds 73 (.int .i64 (g : Int)) = (hv S rest f g).toArray := by
  rw [List.setIfInBounds_toArray]
  congr 1
  unfold hv
  rw [List.set_append, if_neg (by simp [jg, st8]), List.set_append, if_neg (by simp [jg, st8, idV, h])]
  simp [jg, st8, idV, h]
def KE (rest : List UInt8) (f : Nat) (b : List UInt8) : List UInt8 := rest.take f ++ (b ++ rest.drop (f + b.length))
theorem ZJ {rest b : List UInt8} {f : Nat} (h : rest.length = 64) (hf : f + b.length ≤ 64) : (KE rest f b).length = 64 := by
  unfold KE; simp; omega
theorem hv_copy {S : St8} {rest b : List UInt8} {f size : Nat} (h : rest.length = 64) (hf : f + b.length ≤ 64) :
    ((hv S rest f size).toArray.toList.take (8 + f) ++ (idV b ++ (hv S rest f size).toArray.toList.drop (8 + f + (idV b).length))).toArray = (hv S (KE rest f b) f size).toArray := by
  congr 1
  have h8 : (jg (st8 S)).length = 8 := rfl
  have hb : (idV b).length = b.length := by simp [idV]
  have hr : (idV rest).length = 64 := by simp [idV, h]
  show (hv S rest f size).take (8 + f) ++ (idV b ++ (hv S rest f size).drop (8 + f + (idV b).length)) = _
  unfold hv KE
  rw [hb, List.take_append, List.drop_append, h8, show 8 + f - 8 = f by omega, show 8 + f + b.length - 8 = f + b.length by omega, List.take_of_length_le (by omega), List.drop_eq_nil_of_le (by omega), List.nil_append, List.take_append, List.drop_append, hr,
    show f - 64 = 0 by omega, show f + b.length - 64 = 0 by omega, List.take_zero, List.drop_zero, List.append_nil]
  unfold idV
  simp [List.map_take, List.map_drop]
def Qd (D rest : List UInt8) : Prop := rest.length = 64 ∧ ∀ j, j < D.length % 64 → kM rest j = kM D (64 * (D.length / 64) + j)
theorem byteAt_over {rest b : List UInt8} {f j : Nat} (h : rest.length = 64) (hf : f + b.length ≤ 64) (hj : j < f + b.length) : kM (KE rest f b) j = if j < f then kM rest j else kM b (j - f) := by
  unfold KE kM
  rw [List.getD_eq_getElem?_getD]
  split
  · rename_i h1
    rw [List.getElem?_append_left (by simp; omega), List.getElem?_take_of_lt h1, List.getD_eq_getElem?_getD]
  · rename_i h1
    rw [List.getElem?_append_right (by simp; omega), List.getElem?_append_left (by simp; omega), List.getD_eq_getElem?_getD, List.length_take, Nat.min_eq_left (by omega)]
theorem byteAt_app2 {l m : List UInt8} {i : Nat} (h : l.length ≤ i) : kM (l ++ m) i = kM m (i - l.length) := by
  unfold kM; rw [List.getD_eq_getElem?_getD, List.getD_eq_getElem?_getD, List.getElem?_append_right h]
theorem over_app {D rest b : List UInt8} (h : Qd D rest) (hf : D.length % 64 + b.length ≤ 64) {j : Nat} (hj : j < D.length % 64 + b.length) : kM (KE rest (D.length % 64) b) j = kM (D ++ b) (64 * (D.length / 64) + j) := by
  rw [byteAt_over h.1 hf hj]
  have hdm := Nat.div_add_mod D.length 64
  split
  · rename_i h1
    rw [h.2 j h1, qk (by omega)]
  ·
   rename_i h1
   rw [byteAt_app2 (by omega)]
   congr 1
   omega
theorem left_more {D rest b : List UInt8} (h : Qd D rest) (hf : D.length % 64 + b.length < 64) : Qd (D ++ b) (KE rest (D.length % 64) b) ∧ (D ++ b).length % 64 = D.length % 64 + b.length ∧ jA (D ++ b) firstS ((D ++ b).length / 64) = jA D firstS (D.length / 64) := by
  have hdm := Nat.div_add_mod D.length 64
  have e1 : (D ++ b).length / 64 = D.length / 64 := by rw [List.length_append]; omega
  have e2 : (D ++ b).length % 64 = D.length % 64 + b.length := by rw [List.length_append]; omega
  refine ⟨⟨ZJ h.1 (by omega), fun j hj => ?_⟩, e2, ?_⟩
  · rw [e1]; exact over_app h (by omega) (by omega)
  · rw [e1]; exact uX D b firstS _ (by omega)
theorem left_full {D rest b : List UInt8} (h : Qd D rest) (hf : D.length % 64 + b.length = 64) : Qd (D ++ b) (KE rest (D.length % 64) b) ∧ (D ++ b).length % 64 = 0 ∧ jA (D ++ b) firstS ((D ++ b).length / 64) = K2 (KE rest (D.length % 64) b) 0 (jA D firstS (D.length / 64)) := by
  have hdm := Nat.div_add_mod D.length 64
  have e1 : (D ++ b).length / 64 = D.length / 64 + 1 := by rw [List.length_append]; omega
  have e2 : (D ++ b).length % 64 = 0 := by rw [List.length_append]; omega
  refine ⟨⟨ZJ h.1 (by omega), fun j hj => by omega⟩, e2, ?_⟩
  rw [e1]
  show K2 (D ++ b) (64 * (D.length / 64)) (jA (D ++ b) firstS (D.length / 64)) = _
  rw [uX D b firstS _ (by omega)]
  refine (uK (fun i hi => ?_) _).symm
  rw [qZ]
  exact over_app h (by omega) (by omega)
structure HashAt (w : World) (z : Nat) (D rest : List UInt8) (size : Nat) (wx : World) : Prop where
  but : But (fun k => k = z) w wx
  row : wx.heap[z]? = some (.cells (hv (jA D firstS (D.length / 64)) rest (D.length % 64) size).toArray 151 (0, 0))
  left : Qd D rest
theorem HashAt.lt {w : World} {z : Nat} {D rest : List UInt8} {size : Nat} {wx : World} (h : HashAt w z D rest size wx) : z < wx.heap.size := (qX h.row)
theorem HashAt.keep {w : World} {z : Nat} {D rest : List UInt8} {size : Nat} {wx wy : World} (h : HashAt w z D rest size wx) (hb : Below wx.heap.size wx wy) : HashAt w z D rest size wy := ⟨h.but.andBelow hb, (hb.block z h.lt).trans h.row, h.left⟩
theorem but_setRow {X : Nat → Prop} {a b : World} {g : Nat} (h : But X a b) (hx : X g) (cs : Array Value) : But X a (b.setRow g cs) :=
  h.trans (Y := X) ⟨rfl, rfl, rfl, by simp [World.setRow], fun k _ hk => setRow_other b g k cs (fun e => hk (by rw [e]; exact hx))⟩ fun _ _ q => q
theorem Qe (z : Nat) (D rest : List UInt8) (size : Nat) (l : List UInt8) (A : Option Addr) (c : Nat) (w : World) (h : HashAt w z D rest size w) (hc : l.length ≤ c) (hl : l.length ≤ 1099511627776) (hsz : size ≤ 1099511627776)
    (hs : 0 < l.length → ∃ b off, A = some ⟨b, off, none⟩ ∧ b < w.heap.size ∧ b ≠ z ∧ ∀ j (hj : j < l.length), w.cell? ⟨b, off + j, none⟩ = some (.int .u8 (kM l j : Int))) (hg : ShaG w) (hgz : 1 ≠ z ∧ 0 ≠ z) :
    Calls Tryz.prog 72 #[.pointer (some ⟨z, 0, none⟩), .slice A l.length c] w fun e w' => e = .returned (.tuple #[]) ∧ ∃ rest', HashAt w z (D ++ l) rest' (size + l.length) w' := by
  obtain ⟨b, off, hb⟩ : ∃ b off, 0 < l.length → A = some ⟨b, off, none⟩ ∧ b < w.heap.size ∧ b ≠ z ∧ ∀ j (hj : j < l.length), w.cell? ⟨b, off + j, none⟩ = some (.int .u8 (kM l j : Int)) := by
    rcases Nat.eq_zero_or_pos l.length with h0 | h0
    · exact ⟨0, 0, fun h1 => by omega⟩
    · obtain ⟨b, off, h1⟩ := hs h0; exact ⟨b, off, fun _ => h1⟩
  have HB := hid hb; have HG := hid hg; have HH := hid h; have HGZ := hid hgz
  have c73 : w.cell? ⟨z, 73, none⟩ = some (.int .i64 (size : Int)) := (k5 h.row 73).trans (hv_size h.left.1)
  have f73 : w.frozen? ⟨z, 73, none⟩ = false := frozen_of_row _ _ _ _ _ h.row
  have e1 : IntKind.i64.wrap ((size : Int) + (l.length : Int)) = ((size + l.length : Nat) : Int) := by rw [IntWalk.i64_in _ (by omega)]; omega
  clear hb hg h hs hgz
  go_enter Tryz.func72, Tryz.ntmps72
  go_upto_region 2 with fail
  clear c73 f73 e1
  have HW1 : Hid (HashAt w z D rest (size + l.length) (w.setCell ⟨z, 73, none⟩ (.int .i64 ((size + l.length : Nat) : Int)))) := hid ⟨HH.out.but.setCell (fun _ => rfl) _, by rw [← hv_setSize HH.out.left.1]; exact jV HH.out.row _, HH.out.left⟩
  go_loopw [1] (fun t1 wr => ∃ (p : Nat) (rest' : List UInt8) (A' : Option Addr) (c' : Nat), p ≤ l.length ∧ t1 = .slice A' (l.length - p) c' ∧ l.length - p ≤ c' ∧ (p < l.length → A' = some ⟨b, off + p, none⟩) ∧ Hid (HashAt w z (D ++ l.take p) rest' (size + l.length) wr)) (fun t1 _ => u6 t1)
  case atStart => exact ⟨0, rest, A, c, Nat.zero_le _, rfl, hc, fun h0 => (HB.out h0).1, by rw [List.take_zero, List.append_nil]; exact HW1⟩
  case round =>
    clear HW1
    obtain ⟨p, rest', A', c', hp, rfl, hc', hA', HH⟩ := hrel
    by_cases hlt : p < l.length
    ·
     obtain ⟨m, hm⟩ : ∃ m, l.length - p = m := ⟨_, rfl⟩
     obtain rfl := hA' hlt
     obtain ⟨D', hD⟩ : ∃ D', D ++ l.take p = D' := ⟨_, rfl⟩
     obtain ⟨q, hq⟩ : ∃ q, off + p = q := ⟨_, rfl⟩
     rw [hD] at HH
     rw [hm] at hc' ⊢
     rw [hq]
     have HMQ := hid (show l.length - p = m ∧ off + p = q ∧ D ++ l.take p = D' from ⟨hm, hq, hD⟩)
     have i1 : (0 : Int) < (m : Int) := by omega
     have hm0 : 0 < m := by omega
     have hml : m ≤ 1099511627776 := by omega
     obtain ⟨f, hf⟩ : ∃ f, D'.length % 64 = f := ⟨_, rfl⟩
     have hf64 : f < 64 := by rw [← hf]; exact Nat.mod_lt _ (by decide)
     have HF := hid hf
     clear hA' hm hq hD hf
     have HLN := hid HH.out.left.1
     have q72 : wr.cell? ⟨z, 72, none⟩ = some (.int .i64 (f : Int)) := by rw [← HF.out]; exact (k5 HH.out.row 72).trans (Us HLN.out)
     have hzl := HH.out.lt
     have F72 := Wg.cell q72 hzl
     clear q72
     have e64 : ¬ (64 : Nat) = f := by omega
     go_upto_region 3 with fail
     refine zl 9 (by kernel_rfl) (by kernel_rfl) (by kernel_rfl) (by kernel_rfl) (by kernel_rfl) ?_
     simp only [List.take_succ_cons, List.take_zero, List.drop_succ_cons, List.drop_zero]
     repeat (first
       | go_big_quiet_skip
       | (go_big_quiet_want
          first
            | (refine kG (fun w' _ => ex_sliceArr _ _ rfl (z := z) (k := 8) (f := f) rfl rfl hf64) ?_
               go_big_quiet_on
               go_frame; try simp only [nTF])
            | (go_big_quiet_op
               first
                 | go_big_quiet_on
                 | go_big_quiet_call (first | (fail)))))
     refine wpQuiet_nil ?_
     rintro w' ⟨kk, rfl⟩
     have hk9 := kk.2
     generalize kk.val = w9 at *
     clear kk
     clear F72
     have HH9 := hid (HH.out.keep hk9.below)
     obtain ⟨n, hn⟩ : ∃ n, Nat.min m (64 - f) = n := ⟨_, rfl⟩
     have hnm : n ≤ m ∧ f + n ≤ 64 ∧ 0 < n ∧ (f + n < 64 → n = m) := by rw [← hn]; simp only [Nat.min_def]; split <;> omega
     obtain ⟨bs, hbs⟩ : ∃ bs, (l.drop p).take n = bs := ⟨_, rfl⟩
     have hbl : bs.length = n := by rw [← hbs, List.length_take, List.length_drop]; have := HMQ.out.1; omega
     have HBS := hid hbs
     have HSRC := hid (fun (u : World) (hu : But (fun k => k = z) w u) (j : Nat) (v : Value) (hj : (idV bs)[j]? = some v) => (show u.cell? ((⟨b, q, none⟩ : Addr).add j) = some v from by
       have hj2 : j < bs.length := by have h := (List.getElem?_eq_some_iff.1 hj).1; simpa [idV] using h
       have hb := HB.out (by omega)
       have e1 : (⟨b, q, none⟩ : Addr).add j = ⟨b, off + (p + j), none⟩ := by
         have e2 : off + p = q := HMQ.out.2.1
         rw [show (⟨b, q, none⟩ : Addr).add j = ⟨b, q + j, none⟩ by unfold Addr.add; split <;> simp_all, ← e2, Nat.add_assoc]
       rw [e1, hu.cell hb.2.1 hb.2.2.1, hb.2.2.2 (p + j) (by have := HMQ.out.1; omega), ← hj]
       unfold idV kM
       rw [List.getElem?_map, ← HBS.out, List.getElem?_take_of_lt (by omega), List.getElem?_drop, List.getD_eq_getElem?_getD, List.getElem?_eq_getElem (by have := HMQ.out.1; omega)]
       rfl))
     clear hbs hlt
     have HNE := hid hn
     clear hn
     have HRW : Hid (w9.heap[z]? = some (.cells (hv (jA D' firstS (D'.length / 64)) rest' f (size + l.length)).toArray 151 (0, 0))) := hid (by have h := HH9.out.row; rw [HF.out] at h; exact h)
     have hcp := run_copy_row (P := Tryz.prog) w9 22 22 3 5 z (8 + f) (64 - f) (64 - f) ⟨b, q, none⟩ m c' (hv (jA D' firstS (D'.length / 64)) rest' f (size + l.length)).toArray 151 (idV bs) Tryz.underlying22 size_u8s HRW.out (by simp [idV, hbl, HNE.out]) (HSRC.out _ HH9.out.but) (by rw [List.size_toArray, vD HLN.out]; simp [idV]; omega) (ky _)
     rw [List.append_assoc, hv_copy HLN.out (show f + bs.length ≤ 64 by omega), show (idV bs).length = n by simp [idV, hbl]] at hcp
     obtain ⟨w8, hw8⟩ : ∃ u, w9.setRow z (hv (jA D' firstS (D'.length / 64)) (KE rest' f bs) f (size + l.length)).toArray = u := ⟨_, rfl⟩
     rw [hw8] at hcp
     have HB8 : Hid (But (fun k => k = z) w w8) := hid (by rw [← hw8]; exact but_setRow HH9.out.but rfl _)
     have HR8 : Hid (w8.heap[z]? = some (.cells (hv (jA D' firstS (D'.length / 64)) (KE rest' f bs) f (size + l.length)).toArray 151 (0, 0))) := hid (by rw [← hw8]; exact setRow_heap _ _ _ _ _ _ HRW.out)
     clear hw8
     have HOL := hid (ZJ HLN.out (show f + bs.length ≤ 64 by omega))
     have c72 : w8.cell? ⟨z, 72, none⟩ = some (.int .i64 (f : Int)) := (k5 HR8.out 72).trans (Us HOL.out)
     have f72 : w8.frozen? ⟨z, 72, none⟩ = false := frozen_of_row _ _ _ _ _ HR8.out
     have e2 : IntKind.i64.wrap ((f : Int) + (n : Int)) = ((f + n : Nat) : Int) := by rw [IntWalk.i64_in _ (by omega)]; omega
     unfold goInt at hcp
     go_upto_region 5 with fail
     obtain ⟨w7, hw7⟩ : ∃ u, w8.setCell ⟨z, 72, none⟩ (.int .i64 ((f : Int) + (n : Int))) = u := ⟨_, rfl⟩
     rw [hw7]
     have HB7 : Hid (But (fun k => k = z) w w7) := hid (by rw [← hw7]; exact HB8.out.setCell (fun _ => rfl) _)
     have HR7 : Hid (w7.heap[z]? = some (.cells (hv (jA D' firstS (D'.length / 64)) (KE rest' f bs) (f + n) (size + l.length)).toArray 151 (0, 0))) := hid (by rw [← hw7, ← ql HOL.out]; exact jV HR8.out _)
     have c72 : w7.cell? ⟨z, 72, none⟩ = some (.int .i64 ((f + n : Nat) : Int)) := (k5 HR7.out 72).trans (Us HOL.out)
     obtain ⟨A2, c2, hsv, hc2, hA2⟩ := sliced_from b q hnm.1 hc'
     have HSV := hid hsv; have HA2 := hid hA2; have HC2 := hid hc2
     obtain ⟨fn, hfn⟩ : ∃ x, f + n = x := ⟨_, rfl⟩
     have HFN := hid hfn
     rw [hfn] at c72 HR7
     clear hw7 hcp f72 e2 HR8 HB8 hsv hA2 hc2 hfn HNE
     go_upto_region 6 with (refine k6 (by rfl) (ZD 22 _ _ rfl rfl rfl Tryz.underlying22 size_u8s hnm.1 HSV.out) ?_)
     have HNX := hid (show D ++ l.take (p + n) = D' ++ bs by rw [← HMQ.out.2.2, ← HBS.out, List.append_assoc, List.take_add])
     have HPN := hid (show m - n = l.length - (p + n) ∧ p + n ≤ l.length ∧ off + (p + n) = q + n by have := HMQ.out; omega)
     by_cases hfull : fn = 64
     ·
      have i64 : ((fn : Int) == 64) = true := by rw [beq_iff_eq]; omega
      have HZ7 := (qX HR7.out)
      have hE1 := enE Tryz.func95 rfl
      have HFK := hid (fun (u : World) (hu : Below w7.heap.size w7 u) => (show u.rangeAt z 0 (jg (st8 (jA D' firstS (D'.length / 64)))) from fun j v hj => by rw [qZ]; exact (hu.cell (p := ⟨z, j, none⟩) HZ7).trans ((k5 HR7.out j).trans (hv_state j v hj))))
      go_upto_region 7 with fail
      clear c72
      refine rN 9 (fun u => u.rangeAt z 0 (jg (st8 (jA D' firstS (D'.length / 64))))) (HFK.out _ (qD w7.heap.size w7)) fun hF0 => ?_
      refine tw 0 (.pointer (some ⟨z, 0, none⟩)) ?_
      go_frame
      refine tw 1 (.pointer (some ⟨z, 0, none⟩)) ?_
      go_frame
      refine tw 2 (.pointer (some ⟨z, 0, none⟩)) ?_
      go_frame
      refine tw 3 (.pointer (some ⟨z, 0, none⟩)) ?_
      go_frame
      refine tl 4 (.agg (jg (st8 (jA D' firstS (D'.length / 64)))).toArray) rfl hF0 (fun w' hw' => k9 84 _ rfl (p := ⟨z, 0, none⟩) rfl (qV w' _ _ _ (jg (st8 (jA D' firstS (D'.length / 64)))) _ hw' Tryz.underlying84 rfl (by kernel_rfl))) ?_
      go_frame
      refine tw 5 (.pointer (some ⟨z, 0, none⟩)) ?_
      go_frame
      refine tw 6 (.pointer (some ⟨z, 0, none⟩)) ?_
      go_frame
      refine tw 7 (.pointer (some ⟨z, 8, none⟩)) ?_
      go_frame
      refine tk 8 (.slice (some ⟨z, 8, none⟩) 64 64) rfl (fun w' hw' => ex_sliceAll _ rfl rfl) ?_
      go_frame
      refine ta 9 ?_
      refine tc #[.agg (jg (st8 (jA D' firstS (D'.length / 64)))).toArray, .slice (some ⟨z, 8, none⟩) 64 64] hE1 rfl ?_
      have hz6 := ((qD w7.heap.size w7).block z HZ7).trans HR7.out
      refine (rounds_any (jA D' firstS (D'.length / 64)) z 8 64 (KE rest' f bs) w7.drew (Ur uI _) HOL.out (qX hz6) (fun j hj => (k5 hz6 (8 + j)).trans (hv_byte HOL.out hj)) (qR _) (HG.out.but HB7.out.drew HGZ.out)).mono ?_
      rintro e w5 ⟨rfl, hb5⟩
      have hb75 := (qD w7.heap.size w7).trans hb5
      have HR5 := hid ((hb75.block z HZ7).trans HR7.out)
      have HB5 := hid (HB7.out.andBelow hb75)
      have HFq := HFK.out w5 hb75
      refine ⟨_, rfl, fun _ _ => HFq, ?_⟩
      go_frame
      refine tw 10 (.pointer (some ⟨z, 0, none⟩)) ?_
      go_frame
      refine tw 11 (.pointer (some ⟨z, 0, none⟩)) ?_
      go_frame
      refine ta 12 ?_
      refine zf _ rfl (by kernel_rfl) 84 _ _ rfl z 0 [] (jg (st8 (jA D' firstS (D'.length / 64)))) (idV (KE rest' f bs) ++ [.int .i64 (fn : Int), .int .i64 ((size + l.length : Nat) : Int)]) (jg (st8 (K2 (KE rest' f bs) 0 (jA D' firstS (D'.length / 64))))) 151 (.agg (jg (st8 (K2 (KE rest' f bs) 0 (jA D' firstS (D'.length / 64))))).toArray) rfl rfl rfl rfl HR5.out rfl (by kernel_rfl) (Jw _) ?_
      intro w4 hb4 hy4 hs4
      have HB4 := hid (HB5.out.trans hb4 fun _ _ q => q)
      have HR4 : Hid (w4.heap[z]? = some (.cells (hv (K2 (KE rest' f bs) 0 (jA D' firstS (D'.length / 64))) (KE rest' f bs) fn (size + l.length)).toArray 151 (0, 0))) := hid hy4
      clear hb4 hy4 hs4 hb75 hb5
      refine ⟨fun h => absurd h (by decide), ?_⟩
      go_frame
      refine kv (by kernel_rfl) ?_ _
      go_upto_region 8 with fail
      have c72 : w4.cell? ⟨z, 72, none⟩ = some (.int .i64 (fn : Int)) := (k5 HR4.out 72).trans (Us HOL.out)
      have f72 : w4.frozen? ⟨z, 72, none⟩ = false := frozen_of_row _ _ _ _ _ HR4.out
      have HFL := hid (left_full (b := bs) HH.out.left (by have := HF.out; have := HFN.out; omega))
      go_wp2_with fail
      go_roundw
      case rel =>
        refine ⟨p + n, KE rest' f bs, A2, c2, HPN.out.2.1, by rw [HPN.out.1], by have := HPN.out.1; have := HC2.out; omega, fun h => by rw [HA2.out (by have := HPN.out.1; omega), HPN.out.2.2], hid ?_⟩
        rw [HNX.out]
        refine ⟨HB4.out.setCell (fun _ => rfl) _, ?_, by have h := HFL.out.1; rw [HF.out] at h; exact h⟩
        rw [HFL.out.2.1, HFL.out.2.2, HF.out, ← ql HOL.out]
        exact jV HR4.out _
      case measure => simp only [u6]; omega
     ·
      have i64 : ((fn : Int) == 64) = false := by rw [beq_eq_false_iff_ne]; omega
      have HFL := hid (left_more (b := bs) HH.out.left (by have := HF.out; have := HFN.out; omega))
      go_wp2_with fail
      go_roundw
      case rel =>
        refine ⟨p + n, KE rest' f bs, A2, c2, HPN.out.2.1, by rw [HPN.out.1], by have := HPN.out.1; have := HC2.out; omega, fun h => by rw [HA2.out (by have := HPN.out.1; omega), HPN.out.2.2], hid ?_⟩
        rw [HNX.out]
        refine ⟨HB7.out, ?_, by have h := HFL.out.1; rw [HF.out] at h; exact h⟩
        rw [HFL.out.2.1, HFL.out.2.2, HF.out, hbl, HFN.out]
        exact HR7.out
      case measure => simp only [u6]; omega
    ·
     have i1 : ¬ (0 : Int) < ((l.length - p : Nat) : Int) := by omega
     obtain rfl : p = l.length := by omega
     go_wp2_with fail
     go_end0
     rw [List.take_length] at HH
     exact ⟨rfl, _, HH.out⟩
end Go.Proofs.YthjaepmfkgejkaaGreatDoor
