/-
  Worlds alike but for some blocks. Over any program; conditions as each says.
  Objects as they lie in memory: an operation's cells, an object's; '==' on refs and operations. Conditions: the values are well formed, as each says.
  What the program's leb gives: numbers, texts and ids written behind nothing, and read from a place that there is. Conditions: as each says.
-/
import Derived.Test.YthjaepmfkgejkaaGreatDoorMerged6
import Derived.Test.YthjaepmfkgejkaaGreatDoorObjBackS
import Derived.Test.YthjaepmfkgejkaaGreatDoorProg
import Derived.Test.YthjaepmfkgejkaaGreatDoorMerged1
import Derived.Test.YthjaepmfkgejkaaGreatDoorMerged2
import Derived.Laws.OwnMore
import Derived.Deep.AppendSrc
import Derived.Laws.Bits64b
import Derived.Lib.SlBytesRow
import Derived.Deep.LoopGhost
import Derived.WalkMore
import Derived.Handy
import Derived.PlainAid
set_option linter.unusedVariables false
set_option maxHeartbeats 4000000
set_option maxRecDepth 100000
namespace Go.Proofs.YthjaepmfkgejkaaGreatDoor
open Go.RowKit
structure But (X : Nat → Prop) (w w' : World) : Prop where
  os : w'.os = w.os
  tape : w'.tape = w.tape
  output : w'.output = w.output
  size : w.heap.size ≤ w'.heap.size
  block : ∀ k, k < w.heap.size → ¬ X k → w'.heap[k]? = w.heap[k]?
def NoB (_ : Nat) : Prop := False
section
variable {X Y : Nat → Prop} {a b c w w' : World}
theorem But.refl (X : Nat → Prop) (w : World) : But X w w := ⟨rfl, rfl, rfl, Nat.le_refl _, fun _ _ _ => rfl⟩
theorem But.trans (h : But X a b) (k : But Y b c) (hxy : ∀ i, i < a.heap.size → Y i → X i) : But X a c :=
  ⟨k.os.trans h.os, k.tape.trans h.tape, k.output.trans h.output, Nat.le_trans h.size k.size, fun i hi hx => (k.block i (Nat.lt_of_lt_of_le hi h.size) (fun hy => hx (hxy i hi hy))).trans (h.block i hi hx)⟩
theorem But.weak (h : But X a b) (hxy : ∀ i, i < a.heap.size → X i → Y i) : But Y a b := ⟨h.os, h.tape, h.output, h.size, fun i hi hy => h.block i hi fun hx => hy (hxy i hi hx)⟩
theorem But.of_below (h : Below a.heap.size a b) : But X a b := ⟨h.os, h.tape, h.output, h.size, fun k hk _ => h.block k hk⟩
theorem But.below {B : Nat} (h : But X a b) (hB : B ≤ a.heap.size) (hx : ∀ k, k < B → ¬ X k) : Below B a b := ⟨h.os, h.tape, h.output, h.size, fun k hk => h.block k (by omega) (hx k hk)⟩
theorem But.andBelow (h : But X a b) (k : Below b.heap.size b c) : But X a c := h.trans (Y := NoB) ⟨k.os, k.tape, k.output, k.size, fun i hi _ => k.block i hi⟩ fun _ _ q => q.elim
theorem But.drew (h : But X a b) : But X a b.drew := ⟨h.os, h.tape, h.output, h.size, h.block⟩
theorem But.alloc (h : But X a b) (o : Obj) : But X a (b.alloc o) := h.andBelow ((Below.refl _ _).alloc (Nat.le_refl _) o)
theorem But.setCell (h : But X a b) {p : Addr} (hp : p.block < a.heap.size → X p.block) (u : Value) : But X a (b.setCell p u) :=
  ⟨h.os, h.tape, h.output, by simpa [World.setCell] using h.size, fun k hk hx => (Below.heap_setCell _ _ _ _ (by rintro rfl; exact hx (hp hk))).trans (h.block k hk hx)⟩
theorem But.grown {row : Option Nat} (h : But X a b) (hg : b.grownBy c row) (hr : ∀ k, row = some k → k < a.heap.size → X k) : But X a c :=
  h.trans (Y := fun k => row = some k) ⟨hg.os, hg.tape, hg.output, hg.size, fun k hk hx => hg.block k hk (fun e => hx e.symm)⟩ fun k hk hx => hr k hx hk
theorem But.cell (h : But X a b) {g j : Nat} (hg : g < a.heap.size) (hx : ¬ X g) : b.cell? ⟨g, j, none⟩ = a.cell? ⟨g, j, none⟩ := by
  unfold World.cell?
  rw [h.block g hg hx]
theorem But.own {base n size : Nat} {e : TypeId} {v : Value} {xs : List Value} (h : But X a b) (ho : a.ownsRow base e size v n xs) (hx : ∀ g, v.ownBlock = some g → ¬ X g) : b.ownsRow base e size v n xs := by
  refine ⟨ho.1, ?_⟩
  rcases ho.2 with h0 | ⟨g, cap, cur, rfl, hg, hh, r⟩
  · exact .inl h0
  · exact .inr ⟨g, cap, cur, rfl, hg, (h.block g (Array.getElem?_eq_some_iff.1 hh).1 (hx g rfl)).trans hh, r⟩
theorem But.sl {B n sz : Nat} {A : Option Addr} {xs : List Value} (h : But X a b) (ho : Sl a B A n sz xs) (hB : B ≤ a.heap.size) (hx : ∀ k, k < B → ¬ X k) : Sl b B A n sz xs := ho.keep (h.below hB hx)
theorem But.map {P : Program} {K : TypeId} {κ : Type} {ok : κ → Prop} {kl : κ → Lit} {g n : Nat} {m : κ → Option Value} (h : But X a b) (hm : MapV a P K ok kl g n m) (hx : ¬ X g) : MapV b P K ok kl g n m := by
  have hlt := hm.lt
  obtain ⟨D, h1, h2⟩ := hm
  obtain ⟨es, clock, hbk, F, hs, hD⟩ := h1
  exact ⟨D, ⟨es, clock, (h.block g hlt hx).trans hbk, F, hs, hD⟩, h2⟩
end
theorem k6 {w : World} {g : Nat} {cs : List Value} {t : TypeId} {fr : Nat × Nat} (h : w.heap[g]? = some (.cells cs.toArray t fr)) (j : Nat) : w.cell? ⟨g, j, none⟩ = cs[j]? := by
  rw [cell_of_row w g j _ t fr h]
  simp
theorem Kn {P : Program} {ops : Array Oper} {rest : List Oper} {o : Oper} {a : Act} {Q : Exit → Act → World → Prop} {w : World} (hw : Region.wanted o (yielded ops a.tmps) = true) (s x : Operand) (t : TypeId)
    (ho : o.op = .call { callee := .builtin .append, args := #[s, x], argTypes := #[t, t] })
    (base : Nat) (e : TypeId) (z : Value) (size bytes : Nat) (ht : P.underlying t = some (.slice e)) (hinf : (P.info? e).map (fun i => (i.zero, i.size, i.bytes)) = some (some z, size, bytes))
    (hz1 : z.cells.size = size) (hsz : 0 < size) (v : Value) (n : Nat) (xs : List Value) (hs : a.eval s = v) (hown : w.ownsRow base e size v n xs)
    (A : Addr) (m c : Nat) (news : List Value) (hx : a.eval x = .slice (some A) m c) (hl : news.length = m * size) (hnews : ∀ j u, news[j]? = some u → w.cell? (A.add j) = some u) (h1 : ∀ u ∈ news, u.oneCell' = true)
    (hn : n + m ≤ maxLen) (hb : (n + m) * bytes ≤ 140737488355328) (hbase : base ≤ w.heap.size)
    (h : ∀ v' w', w'.ownsRow base e size v' (n + m) (xs ++ news) → w.grownBy w' v.ownBlock → vH w.heap.size v v' → wpList P ops Q rest (a.put o.dst v') w') :
    wpList P ops Q (o :: rest) a w := by
  obtain ⟨i0, hi, hz0, hz2, hz3⟩ := info_parts hinf
  obtain ⟨v', w', hr, hown', hgrow, _⟩ := run_append_own (P := P) w base t o.type e i0 z size bytes ht hi hz0 hz2 hz3 hz1 hsz v n xs hown A m c news hl hnews h1 hn hb hbase
  have hwh := Z5 (P := P) (w := w) base t o.type e i0 z size bytes ht hi hz0 hz2 hz3 hz1 hsz v n xs hown A m c news hl hnews h1 hn hb hr
  refine BigFrame.wpList_want hw fun K hK => ?_
  unfold Oper.wp execOp
  simp only [ho, resolve, invoke, builtin, Sem.run_bind, Sem.run_pure, Result.andThen_ok, List.map_toArray, List.map_cons, List.map_nil, hs, hx, hr]
  exact hK _ _ (h v' w' hown' hgrow hwh)
end Go.Proofs.YthjaepmfkgejkaaGreatDoor
namespace Go.Proofs.YthjaepmfkgejkaaGreatDoor
open Go.RowKit
def opV (x : OpD) : List Value := .int .u8 (x.1.toNat : Int) :: (kf x.2.1 ++ (kf x.2.2.1 ++ [.string x.2.2.2.1, .int .i64 x.2.2.2.2.1, .string x.2.2.2.2.2]))
def KW (x : OpD) : Prop := OpOk x ∧ x.2.2.2.1.size ≤ maxLen ∧ x.2.2.2.2.2.size ≤ maxLen
theorem kg {x : OpD} (h : KW x) : (opV x).length = 70 := by
  have h1 := k8 h.1.1
  have h2 := k8 h.1.2.1
  simp [opV, h1, h2]
theorem zA (x : OpD) : ∀ u ∈ opV x, u.oneCell' = true := by
  intro u hu
  unfold opV at hu
  rcases List.mem_cons.1 hu with rfl | hu
  · rfl
  ·
   rcases List.mem_append.1 hu with hu | hu
   · exact jO _ u hu
   · rcases List.mem_append.1 hu with hu | hu
     · exact jO _ u hu
     · simp at hu; rcases hu with rfl | rfl | rfl <;> rfl
theorem ky {x : OpD} (h : KW x) : (opV x)[0]? = some (.int .u8 (x.1.toNat : Int)) ∧ (∀ (j : Nat) (u : Value), (kf x.2.1)[j]? = some u → (opV x)[1 + j]? = some u) ∧ (∀ (j : Nat) (u : Value), (kf x.2.2.1)[j]? = some u → (opV x)[34 + j]? = some u) ∧
    (opV x)[67]? = some (.string x.2.2.2.1) ∧ (opV x)[68]? = some (.int .i64 x.2.2.2.2.1) ∧ (opV x)[69]? = some (.string x.2.2.2.2.2) := by
  have h1 := k8 h.1.1
  have h2 := k8 h.1.2.1
  have e : opV x = [.int .u8 (x.1.toNat : Int)] ++ kf x.2.1 ++ kf x.2.2.1 ++ [.string x.2.2.2.1, .int .i64 x.2.2.2.2.1, .string x.2.2.2.2.2] := by simp [opV]
  have l1 : ([.int .u8 (x.1.toNat : Int)] ++ kf x.2.1 : List Value).length = 34 := by simp [h1]
  have l2 : ([.int .u8 (x.1.toNat : Int)] ++ kf x.2.1 ++ kf x.2.2.1 : List Value).length = 67 := by simp [h1, h2]
  refine ⟨rfl, fun j u hj => ?_, fun j u hj => ?_, ?_, ?_, ?_⟩
  · have hlt := (List.getElem?_eq_some_iff.1 hj).1
    rw [e, List.append_assoc, List.append_assoc, List.getElem?_append_right (by simp), List.getElem?_append_left (by simp <;> omega)]
    simpa using hj
  · have hlt := (List.getElem?_eq_some_iff.1 hj).1
    rw [e, List.append_assoc, List.getElem?_append_right (by omega), l1, List.getElem?_append_left (by omega), Nat.add_sub_cancel_left]
    exact hj
  · rw [e, List.getElem?_append_right (by omega), l2]; rfl
  · rw [e, List.getElem?_append_right (by omega), l2]; rfl
  · rw [e, List.getElem?_append_right (by omega), l2]; rfl
theorem kI {r : za} (h : zb r) : (∀ (j : Nat) (u : Value), (idV r.1)[j]? = some u → (kf r)[j]? = some u) ∧ (kf r)[32]? = some (.int .i64 r.2) := by
  have h1 : (idV r.1).length = 32 := by rw [km]; exact h.1
  refine ⟨fun j u hj => ?_, ?_⟩
  · unfold kf
    rw [List.getElem?_append_left (List.getElem?_eq_some_iff.1 hj).1]
    exact hj
  · unfold kf
    rw [List.getElem?_append_right (by omega), h1]; rfl
theorem ZC : Tryz.prog.cellsOf 68 = 33 := by kernel_rfl
theorem eqRef : EqT Tryz.prog 68 3 := ⟨by kernel_rfl, of_decide_eq_true (by kernel_rfl), of_decide_eq_true (by kernel_rfl), by kernel_rfl, by kernel_rfl, of_decide_eq_true (by kernel_rfl), by kernel_rfl⟩
theorem kbRef {r : za} (hr : zb r) : Kb Tryz.prog 3 68 (kf r) := by
  have hln := k8 hr
  have hid : (idV r.1).length = 32 := by rw [km]; exact hr.1
  refine UF Tryz.underlying68 (by rw [hln, ZC]) (by kernel_rfl) fun f hf => ?_
  simp only [List.mem_cons, List.not_mem_nil, or_false] at hf
  rcases hf with rfl | rfl
  · simp only [uC, List.drop_zero]
    rw [show (kf r).take 32 = idV r.1 by unfold kf; rw [← hid, List.take_left]]
    exact kbId hr.1
  · simp only [cellsInt]
    rw [show ((kf r).drop 32).take 1 = [.int .i64 r.2] from cut_end hid rfl]
    exact fun d hd => qa Tryz.underlying3 hr.2 d (by omega)
theorem kM {a b : za} (ha : zb a) (hb : zb b) (w : World) : (Op.equalIn 10000 68 (.agg (kf a).toArray) (.agg (kf b).toArray)).run Tryz.prog w = .ok (decide (a = b)) w :=
  eqRef.run kf (fun _ _ => refV_inj) (by rw [k8 ha, ZC]) (by rw [k8 hb, ZC]) (kbRef ha) (kbRef hb) w
theorem ku : zb kc := ⟨zM, by decide⟩
structure ObjIn (w : World) (B : Nat) (v : Value) (o : KO) : Prop where
  ok : ObjOk o
  ops : ∀ x ∈ o.2.1.2.2.2, KW x
  author : o.2.1.2.2.1.size ≤ maxLen
  author2 : o.2.2.2.2.1.size ≤ maxLen
  note : o.2.2.2.2.2.1.size ≤ maxLen
  cells : ∃ Ad cd Ao co Ap cp Ac cc, v = .agg #[.int .u8 (o.1.toNat : Int), .int .i64 o.2.1.1, .slice Ad o.2.1.2.1.length cd, .string o.2.1.2.2.1, .slice Ao o.2.1.2.2.2.length co, .slice Ap o.2.2.1.length cp, .slice Ac o.2.2.2.1.length cc, .string o.2.2.2.2.1, .string o.2.2.2.2.2.1, .int .i64 o.2.2.2.2.2.2] ∧
    Sl w B Ad o.2.1.2.1.length 32 (jf o.2.1.2.1) ∧ Sl w B Ao o.2.1.2.2.2.length 70 (jk opV o.2.1.2.2.2) ∧ Sl w B Ap o.2.2.1.length 32 (jf o.2.2.1) ∧ Sl w B Ac o.2.2.2.1.length 32 (jf o.2.2.2.1)
structure ChIn (w : World) (B : Nat) (v : Value) (c : zH) : Prop where
  ok : uO c
  ops : ∀ x ∈ c.2.2.2, KW x
  author : c.2.2.1.size ≤ maxLen
  cells : ∃ Ad cd Ao co, v = .agg #[.int .i64 c.1, .slice Ad c.2.1.length cd, .string c.2.2.1, .slice Ao c.2.2.2.length co] ∧ Sl w B Ad c.2.1.length 32 (jf c.2.1) ∧ Sl w B Ao c.2.2.2.length 70 (jk opV c.2.2.2)
structure CmIn (w : World) (B : Nat) (v : Value) (c : zO) : Prop where
  ok : uP c
  author : c.2.2.1.size ≤ maxLen
  note : c.2.2.2.1.size ≤ maxLen
  cells : ∃ Ap cp Ac cc, v = .agg #[.slice Ap c.1.length cp, .slice Ac c.2.1.length cc, .string c.2.2.1, .string c.2.2.2.1, .int .i64 c.2.2.2.2] ∧ Sl w B Ap c.1.length 32 (jf c.1) ∧ Sl w B Ac c.2.1.length 32 (jf c.2.1)
section
variable {w w' : World} {B B' : Nat} {v : Value}
theorem ObjIn.keep {o : KO} (h : ObjIn w B v o) (hb : Below B w w') : ObjIn w' B v o := by
  obtain ⟨h1, h2, h3, h4, h5, Ad, cd, Ao, co, Ap, cp, Ac, cc, hv, s1, s2, s3, s4⟩ := h
  exact ⟨h1, h2, h3, h4, h5, Ad, cd, Ao, co, Ap, cp, Ac, cc, hv, s1.keep hb, s2.keep hb, s3.keep hb, s4.keep hb⟩
theorem ObjIn.more {o : KO} (h : ObjIn w B v o) (hB : B ≤ B') : ObjIn w B' v o := by
  obtain ⟨h1, h2, h3, h4, h5, Ad, cd, Ao, co, Ap, cp, Ac, cc, hv, s1, s2, s3, s4⟩ := h
  exact ⟨h1, h2, h3, h4, h5, Ad, cd, Ao, co, Ap, cp, Ac, cc, hv, s1.more hB, s2.more hB, s3.more hB, s4.more hB⟩
theorem ChIn.keep {o : zH} (h : ChIn w B v o) (hb : Below B w w') : ChIn w' B v o := by
  obtain ⟨h1, h2, h3, Ad, cd, Ao, co, hv, s1, s2⟩ := h
  exact ⟨h1, h2, h3, Ad, cd, Ao, co, hv, s1.keep hb, s2.keep hb⟩
theorem ChIn.more {o : zH} (h : ChIn w B v o) (hB : B ≤ B') : ChIn w B' v o := by
  obtain ⟨h1, h2, h3, Ad, cd, Ao, co, hv, s1, s2⟩ := h
  exact ⟨h1, h2, h3, Ad, cd, Ao, co, hv, s1.more hB, s2.more hB⟩
theorem CmIn.keep {o : zO} (h : CmIn w B v o) (hb : Below B w w') : CmIn w' B v o := by
  obtain ⟨h1, h2, h3, Ad, cd, Ao, co, hv, s1, s2⟩ := h
  exact ⟨h1, h2, h3, Ad, cd, Ao, co, hv, s1.keep hb, s2.keep hb⟩
theorem CmIn.more {o : zO} (h : CmIn w B v o) (hB : B ≤ B') : CmIn w B' v o := by
  obtain ⟨h1, h2, h3, Ad, cd, Ao, co, hv, s1, s2⟩ := h
  exact ⟨h1, h2, h3, Ad, cd, Ao, co, hv, s1.more hB, s2.more hB⟩
end
end Go.Proofs.YthjaepmfkgejkaaGreatDoor
namespace Go.Proofs.YthjaepmfkgejkaaGreatDoor
open Lib (hid)
open Go.RowKit
theorem ja : (Tryz.prog.info? 5).map (fun i => (i.zero, i.size, i.bytes)) = some (some (.int .u8 0), 1, 1) := by kernel_rfl
theorem andNot128 : ∀ x : Fin 256, bits BinOp.andNot IntKind.u8 ((x.val : Nat) : Int) 128 = ((x.val % 128 : Nat) : Int) := by decide +kernel
theorem pow128 (i : Nat) : 128 ^ i = 2 ^ (7 * i) := by rw [Nat.pow_mul]
theorem or_at {out c i : Nat} (ho : out < 128 ^ i) (hc : c < 128) (hi : i ≤ 8) : bits BinOp.or IntKind.u64 (out : Int) (IntKind.u64.wrap ((c : Int) * 2 ^ (7 * i))) = ((out + 128 ^ i * c : Nat) : Int) := by
  rw [pow128] at ho ⊢
  have h8 : 2 ^ (7 * i) ≤ 2 ^ 56 := Nat.pow_le_pow_right (by omega) (by omega)
  have e56 : 2 ^ 56 = 72057594037927936 := by decide
  have hm : 2 ^ (7 * i) * c ≤ 72057594037927936 * 127 := Nat.mul_le_mul (by omega) (by omega)
  have e1 : ((c : Int) * 2 ^ (7 * i)) = ((2 ^ (7 * i) * c : Nat) : Int) := by
    rw [Nat.mul_comm (2 ^ (7 * i)) c, Int.natCast_mul, Int.natCast_pow]; rfl
  rw [e1, IntWalk.u64_in _ ⟨by omega, by omega⟩, bits_or_u64_nat _ _ (by omega) (by omega)]
  congr 1
  rw [Nat.or_comm, ← Nat.two_pow_add_eq_or_of_lt ho]
  omega
theorem or_go {out x i : Nat} (ho : out < 128 ^ i) (hx : x < 256) (h128 : 128 ≤ x) (hi : i ≤ 8) :
    bits BinOp.or IntKind.u64 (out : Int) (IntKind.u64.wrap (IntKind.u64.wrap (bits BinOp.andNot IntKind.u8 (x : Int) 128) * 2 ^ (7 * i))) = ((out + 128 ^ i * (x - 128) : Nat) : Int) := by
  have e : bits BinOp.andNot IntKind.u8 (x : Int) 128 = ((x % 128 : Nat) : Int) := andNot128 ⟨x, hx⟩
  rw [e, IntWalk.u64_in ((x % 128 : Nat) : Int) ⟨by omega, by omega⟩, or_at ho (by omega) hi, show x % 128 = x - 128 by omega]
def GetGives (l : List UInt8) (at' : Nat) (w : World) (e : Ending) (w' : World) : Prop := w = w' ∧ e = (match KB (l.drop at') with
  | some (n, k) => .returned (.tuple #[.int .i64 n, .int .i64 ((at' + k : Nat) : Int), .int .i64 0])
  | none => .returned (.tuple #[.int .i64 0, .int .i64 0, .int .i64 6]))
theorem GetGives.no {l : List UInt8} {at' : Nat} {w : World} {e : Ending} (h : KB (l.drop at') = none) (he : e = .returned (.tuple #[.int .i64 0, .int .i64 0, .int .i64 6])) : GetGives l at' w e w := by
  unfold GetGives; rw [h]; exact ⟨rfl, he⟩
theorem GetGives.yes {l : List UInt8} {at' n k : Nat} {w : World} {e : Ending} (h : KB (l.drop at') = some (n, k)) (he : e = .returned (.tuple #[.int .i64 n, .int .i64 ((at' + k : Nat) : Int), .int .i64 0])) : GetGives l at' w e w := by
  unfold GetGives; rw [h]; exact ⟨rfl, he⟩
theorem ret_get {a b a' b' : Int} (h1 : a = a') (h2 : b = b') : Ending.returned (.tuple #[.int .i64 a, .int .i64 b, .int .i64 0]) = .returned (.tuple #[.int .i64 a', .int .i64 b', .int .i64 0]) := by rw [h1, h2]
def Getting (l : List UInt8) (at' i out : Nat) : Prop := KB (l.drop at') = match Ku i (l.drop (at' + i)) with | some (n, k) => some (out + 128 ^ i * n, i + k) | none => none
theorem Getting.start (l : List UInt8) (at' : Nat) : Getting l at' 0 0 := by
  unfold Getting KB
  rw [Nat.add_zero]
  cases Ku 0 (l.drop at') <;> simp
theorem Getting.next {l : List UInt8} {at' i out : Nat} {x : UInt8} (h : Getting l at' i out) (hd : l.drop (at' + i) = x :: l.drop (at' + i + 1)) (h128 : 128 ≤ x.toNat) (hi : i < 8) : Getting l at' (i + 1) (out + 128 ^ i * (x.toNat - 128)) := by
  unfold Getting at h ⊢
  rw [h, hd, Ku, if_pos h128, if_neg (by omega), ← Nat.add_assoc]
  rcases Ku (i + 1) (l.drop (at' + i + 1)) with _ | ⟨n, k⟩
  · rfl
  ·
   simp only [Option.some.injEq, Prod.mk.injEq]
   refine ⟨?_, by omega⟩
   rw [Nat.mul_add, Nat.pow_succ, Nat.mul_assoc]
   omega
theorem Getting.over {l : List UInt8} {at' i out : Nat} {x : UInt8} (h : Getting l at' i out) (hd : l.drop (at' + i) = x :: l.drop (at' + i + 1)) (h128 : 128 ≤ x.toNat) (hi : 8 ≤ i) : KB (l.drop at') = none := by
  unfold Getting at h
  rw [h, hd, Ku, if_pos h128, if_pos hi]
theorem Getting.zero {l : List UInt8} {at' i out : Nat} {x : UInt8} (h : Getting l at' i out) (hd : l.drop (at' + i) = x :: l.drop (at' + i + 1)) (h0 : x.toNat = 0) (hi : 0 < i) : KB (l.drop at') = none := by
  unfold Getting at h
  rw [h, hd, Ku, if_neg (by omega), if_pos ⟨h0, hi⟩]
theorem Getting.last {l : List UInt8} {at' i out : Nat} {x : UInt8} (h : Getting l at' i out) (hd : l.drop (at' + i) = x :: l.drop (at' + i + 1)) (h128 : ¬ 128 ≤ x.toNat) (h0 : ¬ (x.toNat = 0 ∧ 0 < i)) : KB (l.drop at') = some (out + 128 ^ i * x.toNat, i + 1) := by
  unfold Getting at h
  rw [h, hd, Ku, if_neg h128, if_neg h0]
theorem Getting.end {l : List UInt8} {at' i out : Nat} (h : Getting l at' i out) (hi : l.length ≤ at' + i) : KB (l.drop at') = none := by
  unfold Getting at h
  rw [h, List.drop_eq_nil_of_le hi]; rfl
theorem qh (l : List UInt8) (b off : Nat) (c : Nat) (at' : Nat) (w : World) (hl : l.length ≤ maxLen) (hcap : l.length ≤ c) (hat : at' ≤ l.length) (hc : ∀ j (h : j < l.length), w.cell? ⟨b, off + j, none⟩ = some (.int .u8 ((l[j]).toNat : Int))) :
    Calls Tryz.prog 87 #[.slice (some ⟨b, off, none⟩) l.length c, .int .i64 at'] w (GetGives l at' w) := by
  have HC := hid hc; clear hc
  unfold maxLen at hl
  by_cases hend : at' = l.length
  ·
   have hg : KB (l.drop at') = none := by rw [List.drop_eq_nil_of_le (by omega)]; rfl
   have HG := hid hg; clear hg
   subst hend
   rcases (by omega : l.length = c ∨ l.length < c) with hq | hq
   focus
     subst hq
   rotate_left
   all_goals
     go_enter Tryz.func87, Tryz.ntmps87
     go_wp2
     go_step3
     go_wp2
     go_step3
     go_wp2
     go_loopg [7, 8, 23] 0 (fun g s7 s8 s23 wr => s7 = .int .u64 0 ∧ s8 = .int .i64 0 ∧ s23 = .int .i64 0 ∧ wr = w)
     case atStart => exact ⟨rfl, rfl, rfl, rfl⟩
     case round =>
       obtain ⟨rfl, rfl, rfl, hwr⟩ := hrel
       subst hwr
       go_wp2
       rw [Exit.noGoto_ret]
       go_ret3
       exact GetGives.no HG.out rfl
  ·
   have hlt : at' < l.length := by omega
   have hac : at' < c := by omega
   clear hend
   have d1 : decide (l.length < at') = false := by simp; omega
   have d2 : decide ((at' : Int) < 0) = false := by simp
   go_enter Tryz.func87, Tryz.ntmps87
   go_wp2
   go_step3
   go_wp2
   go_step3
   go_wp2
   go_loopg [7, 8, 23] (l.length - at') (fun g s7 s8 s23 wr => ∃ i out : Nat, Hid (i + g = l.length - at') ∧ i ≤ l.length - at' ∧ i ≤ 8 ∧ s23 = .int .i64 i ∧ s8 = .int .i64 (7 * (i : Int)) ∧ s7 = .int .u64 out ∧ Hid (out < 128 ^ i) ∧ wr = w ∧ Hid (Getting l at' i out))
   case atStart => exact ⟨0, 0, hid (by omega), by omega, by omega, rfl, rfl, rfl, hid (by simp), rfl, hid (Getting.start l at')⟩
   case round =>
     obtain ⟨i, out, hi, him', hi8, rfl, rfl, rfl, hout, hwr, hG⟩ := hrel
     subst hwr
     by_cases him : i < l.length - at'
     ·
      have hcell := HC.out (at' + i) (by omega)
      rw [← Nat.add_assoc] at hcell
      have hdrop : l.drop (at' + i) = l[at' + i]'(by omega) :: l.drop (at' + i + 1) := List.drop_eq_getElem_cons (by omega)
      have HD := hid hdrop; clear hdrop
      generalize hx : (l[at' + i]'(by omega)) = x at *
      have hx256 : x.toNat < 256 := x.toNat_lt
      have HX := hid hx; clear hx
      generalize hxn : x.toNat = xn at *
      have HXN := hid hxn; clear hxn
      have i0 : (0 : Int) ≤ (i : Int) := by omega
      have i1 : (i : Int) < ((l.length - at' : Nat) : Int) := by omega
      by_cases h128 : 128 ≤ xn
      ·
       by_cases he : 8 ≤ i
       ·
        have hno : KB (l.drop at') = none := hG.out.over HD.out (by rw [HXN.out]; exact h128) he
        have HNO := hid hno; clear hno
        go_wp2
        rw [Exit.noGoto_ret]
        go_ret3
        exact GetGives.no HNO.out rfl
       ·
        have hnx := hG.out.next HD.out (by rw [HXN.out]; exact h128) (by omega)
        have HNX := hid hnx; clear hnx
        go_wp2
        go_roundg (l.length - at' - (i + 1))
        case measure => have := hi.out; omega
        case rel =>
          have hv := or_go hout.out hx256 h128 hi8
          have ho2 : out + 128 ^ i * (xn - 128) < 128 ^ (i + 1) := by
            have h1 := hout.out
            have h2 : 128 ^ i * (xn - 128) ≤ 128 ^ i * 127 := Nat.mul_le_mul_left _ (by omega)
            rw [Nat.pow_succ]; omega
          exact ⟨i + 1, out + 128 ^ i * (xn - 128), hid (by omega), by omega, by omega, by go_num, by congr 1, by rw [hv], hid ho2, rfl, hid (by have := HNX.out; rw [HXN.out] at this; exact this)⟩
      ·
       by_cases h00 : xn = 0 ∧ 0 < i
       ·
        obtain ⟨hx0, hi0⟩ := h00
        have hno : KB (l.drop at') = none := hG.out.zero HD.out (by rw [HXN.out]; exact hx0) hi0
        have HNO := hid hno; clear hno
        have hx0' : ((xn : Int) == 0) = true := by simp [hx0]
        have hi0' : (0 : Int) < (i : Int) := by omega
        clear hx0
        rcases (by omega : i ≤ 7 ∨ 8 ≤ i) with h7 | h7
        all_goals
          go_wp2
          all_goals
            (try rw [Exit.noGoto_ret])
            go_ret3
            exact GetGives.no HNO.out rfl
       ·
        have hyes := hG.out.last HD.out (by rw [HXN.out]; exact h128) (by rw [HXN.out]; exact h00)
        rw [HXN.out] at hyes
        have hbd := Jz hyes
        have HYES := hid hyes; clear hyes
        have hor := or_at hout.out (show xn < 128 by omega) hi8
        have HOR := hid hor; clear hor
        rcases (by omega : (xn = 0 ∧ i = 0) ∨ 0 < xn) with ⟨hx0, hi0⟩ | hx0
        focus
          have hx0' : ((xn : Int) == 0) = true := by simp [hx0]
          have hi0' : ¬ (0 : Int) < (i : Int) := by omega
          have HX0 := hid hx0; clear hx0
          have HI0 := hid hi0; clear hi0
        rotate_left
        focus
          have hx0' : ((xn : Int) == 0) = false := by simp; omega
        all_goals
          rcases (by omega : i ≤ 7 ∨ 8 ≤ i) with h7 | h7
          all_goals
            go_wp2
            all_goals
              (try rw [Exit.noGoto_ret])
              go_ret3
              refine GetGives.yes HYES.out (ret_get ?_ (by push_cast; omega))
              rw [HOR.out, IntWalk.wrap64_in _ ⟨by omega, by omega⟩]
     ·
      have hno : KB (l.drop at') = none := hG.out.end (by omega)
      have HNO := hid hno; clear hno
      go_wp2
      rw [Exit.noGoto_ret]
      go_ret3
      exact GetGives.no HNO.out rfl
def GetTextGives (l : List UInt8) (at' most : Nat) (w : World) (e : Ending) (w' : World) : Prop := w = w' ∧ (match jC (l.drop at') most with
  | some (t, k) => e = .returned (.tuple #[.string ⟨t.toArray⟩, .int .i64 ((at' + k : Nat) : Int), .int .i64 0])
  | none => ∃ q : Int, q ≠ 0 ∧ e = .returned (.tuple #[.string ⟨#[]⟩, .int .i64 0, .int .i64 q]))
theorem GetTextGives.no {l : List UInt8} {at' most : Nat} {w : World} {e : Ending} {q : Int} (h : jC (l.drop at') most = none) (hq : q ≠ 0) (he : e = .returned (.tuple #[.string ⟨#[]⟩, .int .i64 0, .int .i64 q])) : GetTextGives l at' most w e w := by
  unfold GetTextGives; rw [h]; exact ⟨rfl, q, hq, he⟩
theorem GetTextGives.yes {l : List UInt8} {at' most k : Nat} {t : List UInt8} {w : World} {e : Ending} (h : jC (l.drop at') most = some (t, k)) (he : e = .returned (.tuple #[.string ⟨t.toArray⟩, .int .i64 ((at' + k : Nat) : Int), .int .i64 0])) : GetTextGives l at' most w e w := by
  unfold GetTextGives; rw [h]; exact ⟨rfl, he⟩
theorem Z6 {w : World} {b off : Nat} {l : List UInt8} (hc : ∀ j (h : j < l.length), w.cell? ⟨b, off + j, none⟩ = some (.int .u8 ((l[j]).toNat : Int))) : Lib.Bytes w b off ⟨l.toArray⟩ := by
  intro i hi
  have hi' : i < l.length := by simpa [ByteArray.size] using hi
  rw [hc i hi']
  have e : (⟨l.toArray⟩ : ByteArray)[i] = l[i] := by
    show (l.toArray)[i] = l[i]
    simp
  rw [e]
theorem vI (l : List UInt8) : (⟨l.toArray⟩ : ByteArray).size = l.length := by simp [ByteArray.size]
theorem L_mk (l : List UInt8) : L ⟨l.toArray⟩ = l := by simp [L]
theorem KZ (l : List UInt8) (a n : Nat) : (⟨l.toArray⟩ : ByteArray).extract a (a + n) = ⟨((l.drop a).take n).toArray⟩ := by
  have h : L ((⟨l.toArray⟩ : ByteArray).extract a (a + n)) = (l.drop a).take n := by
    have h1 : L ((⟨l.toArray⟩ : ByteArray).extract a (a + n)) = ((L ⟨l.toArray⟩).drop a).take (a + n - a) := Lib.extract_data _ _ _
    rw [h1, L_mk, Nat.add_sub_cancel_left]
  exact L_inj (h.trans (L_mk _).symm)
theorem uo (l : List UInt8) (b off : Nat) (c : Nat) (at' most : Nat) (w : World) (hl : l.length ≤ 1099511627776) (hcap : l.length ≤ c) (hat : at' ≤ l.length) (hc : ∀ j (h : j < l.length), w.cell? ⟨b, off + j, none⟩ = some (.int .u8 ((l[j]).toNat : Int))) :
    Calls Tryz.prog 90 #[.slice (some ⟨b, off, none⟩) l.length c, .int .i64 at', .int .i64 most] w (GetTextGives l at' most w) := by
  have HC := hid hc
  have hgt : jC (l.drop at') most = _ := rfl
  unfold jC at hgt
  have hget := qh l b off c at' w (by unfold maxLen; omega) hcap hat hc
  clear hc
  rcases hg : KB (l.drop at') with _ | ⟨n, k⟩
  ·
   rw [hg] at hgt
   simp only at hgt
   have HGT := hid hgt; clear hgt
   have HG := hid hg; clear hg
   have HGET := hid hget; clear hget
   go_enter Tryz.func90, Tryz.ntmps90
   go_wp2_with fail
   refine HGET.out.mono ?_
   unfold GetGives
   rw [HG.out]
   rintro e w1 ⟨rfl, rfl⟩
   go_wp2_with fail
   go_ret3
   exact GetTextGives.no (by unfold jC; rw [HG.out]) (by omega) rfl
  ·
   have hk := vX hg
   rw [List.length_drop] at hk
   have hb := Jz hg
   rw [hg] at hgt
   simp only [List.length_drop] at hgt
   have HGT := hid hgt; clear hgt
   have HG := hid hg; clear hg
   have HGET := hid hget; clear hget
   have fin : ∀ r, (if most < n then none else if l.length - at' - k < n then none else some (List.take n (List.drop k (List.drop at' l)), k + n)) = r → jC (l.drop at') most = r := by
     intro r h
     unfold jC
     rw [HG.out]
     simp only [List.length_drop]
     exact h
   have FIN := hid fin; clear fin
   by_cases h1 : most < n
   ·
    go_enter Tryz.func90, Tryz.ntmps90
    go_wp2_with fail
    refine HGET.out.mono ?_
    unfold GetGives
    rw [HG.out]
    rintro e w1 ⟨rfl, rfl⟩
    go_wp2_with fail
    go_ret3
    exact GetTextGives.no (FIN.out none (by rw [if_pos h1])) (by omega) rfl
   ·
    by_cases h2 : l.length - at' - k < n
    ·
     have h2' : (l.length : Int) - ((at' + k : Nat) : Int) < (n : Int) := by omega
     go_enter Tryz.func90, Tryz.ntmps90
     go_wp2_with fail
     refine HGET.out.mono ?_
     unfold GetGives
     rw [HG.out]
     rintro e w1 ⟨rfl, rfl⟩
     go_wp2_with fail
     go_ret3
     exact GetTextGives.no (FIN.out none (by rw [if_neg h1, if_pos h2])) (by omega) rfl
    ·
     have h2' : ¬ (l.length : Int) - ((at' + k : Nat) : Int) < (n : Int) := by omega
     have hs := KZ l (at' + k) n
     by_cases hcc : c = at' + k
     ·
      obtain rfl : n = 0 := by omega
      have hconv := Lib.run_convert_window (P := Tryz.prog) w 22 5 9 Tryz.underlying22 Tryz.underlying5 Tryz.underlying9 b off ⟨l.toArray⟩ (Z6 HC.out) 0 0 0 (by omega)
      have he : (⟨l.toArray⟩ : ByteArray).extract 0 (0 + 0) = ⟨#[]⟩ := by
        apply L_inj
        rw [KZ, L_mk]; simp
      rw [he, Nat.add_zero] at hconv
      clear he hs
      subst hcc
      go_enter Tryz.func90, Tryz.ntmps90
      go_wp2_with fail
      refine HGET.out.mono ?_
      unfold GetGives
      rw [HG.out]
      rintro e w1 ⟨rfl, rfl⟩
      go_wp2_with fail
      go_ret3
      refine GetTextGives.yes (FIN.out _ (by rw [if_neg h1, if_neg h2])) ?_
      rw [List.take_zero]
      congr 3
     ·
      have hconv := Lib.run_convert_window (P := Tryz.prog) w 22 5 9 Tryz.underlying22 Tryz.underlying5 Tryz.underlying9 b off ⟨l.toArray⟩ (Z6 HC.out) (at' + k) n (c - (at' + k)) (by rw [vI]; omega)
      rw [hs] at hconv
      clear hs
      generalize hTX : (⟨((l.drop (at' + k)).take n).toArray⟩ : ByteArray) = TX at *
      have HTX := hid hTX; clear hTX
      go_enter Tryz.func90, Tryz.ntmps90
      go_wp2_with fail
      refine HGET.out.mono ?_
      unfold GetGives
      rw [HG.out]
      rintro e w1 ⟨rfl, rfl⟩
      go_wp2_with fail
      go_ret3
      refine GetTextGives.yes (FIN.out _ (by rw [if_neg h1, if_neg h2])) ?_
      rw [← HTX.out, List.drop_drop, show ((at' + (k + n) : Nat) : Int) = (at' : Int) + k + n by omega]
      rfl
end Go.Proofs.YthjaepmfkgejkaaGreatDoor
