/-
  What the reader's object gives. Conditions: as it says.
-/
import Derived.Test.YtdgbjhfkmembdaaGreatDoorShort0
import Derived.Test.YtdgbjhfkmembdaaGreatDoorShort9
import Derived.Test.YtdgbjhfkmembdaaGreatDoorObjRdMem
import Derived.Test.YtdgbjhfkmembdaaGreatDoorObjIds2
namespace Go.Proofs.YtdgbjhfkmembdaaGreatDoor
open Go.RowKit Go.Maps
set_option linter.unusedVariables false
set_option linter.unusedSimpArgs false

theorem commit_in {wz : World} {B : Nat} {t : Nat} {ps cs : List (List UInt8)} {au ms : ByteArray} {Ap Ac : Option Addr} {cp cc : Nat} (hi : IdsOk ps) (hi2 : IdsOk cs) (hd : wz.ownsRow B 41 32 (.slice Ap ps.length cp) ps.length (idsV ps)) (ho : wz.ownsRow B 41 32 (.slice Ac cs.length cc) cs.length (idsV cs)) (ht : t < 9223372036854775808) (ha : au.size ≤ 4096) (hm : ms.size ≤ 4096) :
    ObjIn wz wz.heap.size (.agg ([.int .u8 2, .int .i64 0, .slice none 0 0, .string noneS, .slice none 0 0, .slice Ap ps.length cp, .slice Ac cs.length cc, .string au, .string ms, .int .i64 (t : Int)] : List Value).toArray) (2, noChangeD, (ps, cs, au, ms, (t : Int))) := by
  refine ⟨⟨⟨(by decide : (Lit.int .i64 0).wf = true), ?_, ?_⟩, hi, hi2, ?_⟩, ?_, ?_, ?_, ?_, none, 0, none, 0, Ap, cp, Ac, cc, rfl, Sl.nil, Sl.nil, Sl.of_own hd, Sl.of_own ho⟩
  · intro x hx; cases hx
  · intro x hx; cases hx
  · simp only [Lit.wf, IntKind.min, IntKind.max, IntKind.signed, IntKind.bits, Bool.and_eq_true]
    simp
    omega
  · intro x hx; cases hx
  · show (0 : Nat) ≤ maxLen
    omega
  · show au.size ≤ maxLen
    unfold maxLen; omega
  · show ms.size ≤ maxLen
    unfold maxLen; omega
theorem change_in {wz : World} {B : Nat} {t : Nat} {ds : List (List UInt8)} {au : ByteArray} {ops : List OpD} {Ad Ao : Option Addr} {cd co : Nat} (hi : IdsOk ds) (hop : ∀ x ∈ ops, OpIn x) (hd : wz.ownsRow B 41 32 (.slice Ad ds.length cd) ds.length (idsV ds)) (ho : wz.ownsRow B 112 70 (.slice Ao ops.length co) ops.length (rowsV opV ops)) (ht : t < 9223372036854775808) (ha : au.size ≤ 4096) :
    ObjIn wz wz.heap.size (.agg ([.int .u8 1, .int .i64 (t : Int), .slice Ad ds.length cd, .string au, .slice Ao ops.length co, .slice none 0 0, .slice none 0 0, .string noneS, .string noneS, .int .i64 0] : List Value).toArray) (1, ((t : Int), ds, au, ops), noCommitD) := by
  refine ⟨⟨⟨?_, hi, fun x hx => (hop x hx).1⟩, ?_, ?_, (by decide : (Lit.int .i64 0).wf = true)⟩, hop, ?_, ?_, ?_, Ad, cd, Ao, co, none, 0, none, 0, rfl, Sl.of_own hd, Sl.of_own ho, Sl.nil, Sl.nil⟩
  · simp only [Lit.wf, IntKind.min, IntKind.max, IntKind.signed, IntKind.bits, Bool.and_eq_true]
    simp
    omega
  · intro x hx; cases hx
  · intro x hx; cases hx
  · show au.size ≤ maxLen
    unfold maxLen; omega
  · show (0 : Nat) ≤ maxLen
    omega
  · show (0 : Nat) ≤ maxLen
    omega
theorem ex_eqInt {ρ : Operand → Value} {o : Oper} {w : World} (x y : Operand) (t' : TypeId) (ho : o.op = .binOp .eql 3 x y t') {m n : Int} (hx : ρ x = .int .i64 m) (hy : ρ y = .int .i64 n) {r : Bool} (hr : (m == n) = r) : (execOp ρ o).run Tryz.prog w = .ok (.value (.bool r)) w := by
  subst hr
  unfold execOp
  simp only [ho, hx, hy]
  rfl
theorem pMany_length {α : Type} {d : Ps α} : ∀ {n : Nat} {l r : List UInt8} {xs : List α}, pMany d n l = some (xs, r) → xs.length = n
  | 0, l, r, xs, h => by cases h; rfl
  | n + 1, l, r, xs, h => by
    obtain ⟨a, s, _, h2⟩ := pBind_some (d := d) h
    obtain ⟨t, s2, h3, h4⟩ := pBind_some h2
    cases h4
    simp [pMany_length h3]
theorem pList_length {α : Type} {d : Ps α} {most : Nat} {l r : List UInt8} {xs : List α} (h : pList most d l = some (xs, r)) : xs.length ≤ most := by
  obtain ⟨n, s, _, h2⟩ := pBind_some h
  unfold pNeed at h2
  split at h2
  · rename_i hn
    rw [pMany_length h2]; exact of_decide_eq_true hn
  · cases h2
section
variable {r1 r2 r3 r4 r5 : List UInt8} {t : Nat} {ds : List (List UInt8)} {au : ByteArray} {ops : List OpD}
theorem pNumI_some (h : pNum r1 = some (t, r2)) : pNumI r1 = some ((t : Int), r2) := by unfold pNumI; rw [pBind_at h]; rfl
theorem pCm0 (h : pList 2 pId r1 = none) : pCommit r1 = none := by unfold pCommit pBind; rw [h]
theorem pCm1 {ps : List (List UInt8)} (h1 : pList 2 pId r1 = some (ps, r2)) (h : pList 4096 pId r2 = none) : pCommit r1 = none := by unfold pCommit; rw [pBind_at h1]; unfold pBind; rw [h]
theorem pCm2 {ps : List (List UInt8)} (h1 : pList 2 pId r1 = some (ps, r2)) (h2 : pList 4096 pId r2 = some (ds, r3)) (h : pText r3 = none) : pCommit r1 = none := by unfold pCommit; rw [pBind_at h1, pBind_at h2]; unfold pBind; rw [h]
theorem pCm3 {ps : List (List UInt8)} (h1 : pList 2 pId r1 = some (ps, r2)) (h2 : pList 4096 pId r2 = some (ds, r3)) (h3 : pText r3 = some (au, r4)) (h : pText r4 = none) : pCommit r1 = none := by unfold pCommit; rw [pBind_at h1, pBind_at h2, pBind_at h3]; unfold pBind; rw [h]
theorem pCm4 {ps : List (List UInt8)} {ms : ByteArray} (h1 : pList 2 pId r1 = some (ps, r2)) (h2 : pList 4096 pId r2 = some (ds, r3)) (h3 : pText r3 = some (au, r4)) (h4 : pText r4 = some (ms, r5)) (h : pNum r5 = none) : pCommit r1 = none := by unfold pCommit pNumI; rw [pBind_at h1, pBind_at h2, pBind_at h3, pBind_at h4]; unfold pBind; rw [h]
theorem pCm5 {ps : List (List UInt8)} {ms : ByteArray} {r6 : List UInt8} (h1 : pList 2 pId r1 = some (ps, r2)) (h2 : pList 4096 pId r2 = some (ds, r3)) (h3 : pText r3 = some (au, r4)) (h4 : pText r4 = some (ms, r5)) (h5 : pNum r5 = some (t, r6)) : pCommit r1 = some ((ps, ds, au, ms, (t : Int)), r6) := by unfold pCommit; rw [pBind_at h1, pBind_at h2, pBind_at h3, pBind_at h4, pBind_at (pNumI_some h5)]; rfl
theorem pCh0 (h : pNum r1 = none) : pChange r1 = none := by unfold pChange pNumI pBind; rw [h]
theorem pCh1 (h1 : pNum r1 = some (t, r2)) (h : pList 4096 pId r2 = none) : pChange r1 = none := by unfold pChange; rw [pBind_at (pNumI_some h1)]; unfold pBind; rw [h]
theorem pCh2 (h1 : pNum r1 = some (t, r2)) (h2 : pList 4096 pId r2 = some (ds, r3)) (h : pText r3 = none) : pChange r1 = none := by unfold pChange; rw [pBind_at (pNumI_some h1), pBind_at h2]; unfold pBind; rw [h]
theorem pCh3 (h1 : pNum r1 = some (t, r2)) (h2 : pList 4096 pId r2 = some (ds, r3)) (h3 : pText r3 = some (au, r4)) (h : pList 4096 (pOp ds) r4 = none) : pChange r1 = none := by unfold pChange; rw [pBind_at (pNumI_some h1), pBind_at h2, pBind_at h3]; unfold pBind; rw [h]
theorem pCh4 (h1 : pNum r1 = some (t, r2)) (h2 : pList 4096 pId r2 = some (ds, r3)) (h3 : pText r3 = some (au, r4)) (h4 : pList 4096 (pOp ds) r4 = some (ops, r5)) : pChange r1 = some (((t : Int), ds, au, ops), r5) := by unfold pChange; rw [pBind_at (pNumI_some h1), pBind_at h2, pBind_at h3, pBind_at h4]; rfl
end
theorem zeroObj_run (w : World) : (zeroValue 70).run Tryz.prog w = .ok (.agg ([.int .u8 0, .int .i64 0, .slice none 0 0, .string noneS, .slice none 0 0, .slice none 0 0, .slice none 0 0, .string noneS, .string noneS, .int .i64 0] : List Value).toArray) w := by kernel_rfl
end Go.Proofs.YtdgbjhfkmembdaaGreatDoor
