/-
  What object.parts gives: the table of the kinds, as a map. No conditions.
  Loads of refs, ids, operations in one word. Conditions: none.
  The reader's memory: bytes, and the place in them. Conditions: as each says.
  What the reader's number and text read. Conditions: bytes that lie in memory; at most 2^40.
  What the reader's byte reads. Conditions: bytes that lie in memory; at most 2^40.
-/
import Derived.Test.YthjaepmfkgejkaaGreatDoorMerged7
import Derived.Deep.MidRow
import Derived.Test.YthjaepmfkgejkaaGreatDoorLebWalks
import Derived.Test.YthjaepmfkgejkaaGreatDoorMerged11
import Derived.Test.YthjaepmfkgejkaaGreatDoorMerged8
import Derived.WalkLawsBesides
import Derived.Test.YthjaepmfkgejkaaGreatDoorMerged4
set_option linter.unusedVariables false
set_option linter.unusedSimpArgs false
set_option maxHeartbeats 4000000
set_option maxRecDepth 100000
namespace Go.Proofs.YthjaepmfkgejkaaGreatDoor
open Lib (hid)
open Go.RowKit Go.Maps
def U8Ok (_ : UInt8) : Prop := True
def u8K (k : UInt8) : Value := .int .u8 (k.toNat : Int)
def u8L (k : UInt8) : Lit := .int .u8 (k.toNat : Int)
theorem keyedU8 : Keyed Tryz.prog 5 := int_keyed Tryz.underlying5
theorem u8_wf (k : UInt8) : (Lit.int .u8 (k.toNat : Int)).wf = true := by
  simp only [Lit.wf, IntKind.min, IntKind.max, IntKind.signed, IntKind.bits, Bool.and_eq_true]
  have := k.toNat_lt
  simp
  omega
theorem ZM : KeyEnc Tryz.prog 5 U8Ok u8K u8L := ⟨keyedU8, fun k hk => by
  have hk := u8_wf k
  simp [keyOf, mapKey, u8K, u8L, Tryz.underlying5, hk], fun a b h => by
  unfold u8K at h
  injection h with _ h
  exact UInt8.toNat_inj.1 (by omega)⟩
def zq (p : Jy) : Value := .agg #[.bool p.1, .bool p.2.1, .bool p.2.2.1, .bool p.2.2.2.1, .bool p.2.2.2.2]
def kZ : Jy := (false, false, false, false, false)
def ja (k : UInt8) : Option Value := (kj k).map zq
def PartsAt (w : World) (v : Value) : Prop := ∃ g n, v = .map (some g) ∧ MapV w Tryz.prog 5 U8Ok u8L g n ja
theorem Zp {P : Program} {K : TypeId} {κ : Type} {ok : κ → Prop} {val : κ → Value} {kl : κ → Lit} {w : World} {b n : Nat} {m : κ → Option Value} {ops : Array Oper} {rest : List Oper} {o : Oper} {a : Act} {Q : Exit → Act → World → Prop} [DecidableEq κ] (hg : o.guard = none) (mo x v : Operand) (t : TypeId) (hop : o.op = Op.insert t mo x v)
    (e : TypeId) (E : KeyEnc P K ok val kl) (ht : P.underlying t = some (.map K e)) (hm : a.eval mo = .map (some b)) (hown : MapV w P K ok kl b n m) (hn : n < maxLen) (k0 : κ) (hk : ok k0) (hx : a.eval x = val k0) (v0 : Value) (hv : a.eval v = v0)
    (h : ∀ w', MapV w' P K ok kl b (n + 1) (fun k => if k = k0 then some v0 else m k) → w.grownBy w' (some b) → wpList P ops Q rest (a.put o.dst undef) w') :
    wpList P ops Q (o :: rest) a w := by
  obtain ⟨D, h1, h2, h3, h4⟩ := hown
  refine wpList_plain hg fun K' hK' => ?_
  obtain ⟨w', hrun, r1, r2⟩ := h1.update E.keyed ht hn (E.of k0 hk) (d := .held v0) (ps := []) rfl
  obtain ⟨g1, g2, g3⟩ := put_view E h2 h3 h4 hk v0
  unfold Oper.wp
  simp [execOp, hop, hm, hx, hv, hrun, Result.andThen]
  exact hK' _ _ (h w' ⟨_, r1, g1, g2, g3⟩ r2)
theorem JT (w : World) : (zeroValue 117).run Tryz.prog w = .ok (zq kZ) w := by kernel_rfl
theorem Zq (w : World) : Calls Tryz.prog 69 #[] w fun e w' => Below w.heap.size w w' ∧ ∃ v, e = .returned v ∧ PartsAt w' v ∧ ∃ g, v = .map (some g) ∧ w.heap.size ≤ g := by
  have hmm := @run_makeMap Tryz.prog
  have hm0 := MapV.made w Tryz.prog 5 U8Ok u8L
  have HM := hid hm0; clear hm0
  have hb0 : Below w.heap.size w (w.alloc (.map #[] 0)) := (Below.refl _ _).alloc (Nat.le_refl _) _
  have HB := hid hb0; clear hb0
  go_enter Tryz.func69, Tryz.ntmps69
  go_wp2_with (first
    | (refine Zp rfl _ _ _ 114 rfl 117 ZM Tryz.underlying114 rfl HM.out (by unfold maxLen; omega) 1 trivial rfl _ rfl ?_; intro w1 hm1 hg1; have HM1 := hid hm1; have HB1 := hid (HB.out.grown hg1 HB.out.size (fun k e => (by injection e with e; omega))); clear hm1 hg1 HM HB)
    | (refine Zp rfl _ _ _ 114 rfl 117 ZM Tryz.underlying114 rfl HM1.out (by unfold maxLen; omega) 2 trivial rfl _ rfl ?_; intro w2 hm2 hg2; have HM2 := hid hm2; have HB2 := hid (HB1.out.grown hg2 HB1.out.size (fun k e => (by injection e with e; omega))); clear hm2 hg2 HM1 HB1)
    | (refine Zp rfl _ _ _ 114 rfl 117 ZM Tryz.underlying114 rfl HM2.out (by unfold maxLen; omega) 3 trivial rfl _ rfl ?_; intro w3 hm3 hg3; have HM3 := hid hm3; have HB3 := hid (HB2.out.grown hg3 HB2.out.size (fun k e => (by injection e with e; omega))); clear hm3 hg3 HM2 HB2)
    | (refine Zp rfl _ _ _ 114 rfl 117 ZM Tryz.underlying114 rfl HM3.out (by unfold maxLen; omega) 4 trivial rfl _ rfl ?_; intro w4 hm4 hg4; have HM4 := hid hm4; have HB4 := hid (HB3.out.grown hg4 HB3.out.size (fun k e => (by injection e with e; omega))); clear hm4 hg4 HM3 HB3)
    | (refine Zp rfl _ _ _ 114 rfl 117 ZM Tryz.underlying114 rfl HM4.out (by unfold maxLen; omega) 5 trivial rfl _ rfl ?_; intro w5 hm5 hg5; have HM5 := hid hm5; have HB5 := hid (HB4.out.grown hg5 HB4.out.size (fun k e => (by injection e with e; omega))); clear hm5 hg5 HM4 HB4))
  go_ret
  refine ⟨HB5.out, _, rfl, ⟨w.heap.size, 5, rfl, ?_⟩, w.heap.size, rfl, Nat.le_refl _⟩
  have := HM5.out
  refine cast (congrArg (MapV _ _ _ _ _ _ _) ?_) this
  funext k
  unfold ja kj
  by_cases h1 : k = 1
  · subst h1; rfl
  by_cases h2 : k = 2
  · subst h2; rfl
  by_cases h3 : k = 3
  · subst h3; rfl
  by_cases h4 : k = 4
  · subst h4; rfl
  by_cases h5 : k = 5
  · subst h5; rfl
  simp [h1, h2, h3, h4, h5]
end Go.Proofs.YthjaepmfkgejkaaGreatDoor
namespace Go.Proofs.YthjaepmfkgejkaaGreatDoor
open Go.RowKit
section
variable {ρ : Operand → Value} {o : Oper} {w : World} {b f : Nat} {x : Operand}
theorem ldR {r : jQ} (hr : jN r) (hc : w.rangeAt b f (ke r)) (ho : o.op = .load 68 x := by rfl) (hx : ρ x = .pointer (some ⟨b, f, none⟩) := by rfl) : (execOp ρ o).run Tryz.prog w = .ok (.value (.agg (ke r).toArray)) w :=
  k9 68 x ho hx (run_loadVar_mid w b f _ (ke r) _ hc Tryz.underlying68 rfl (by rw [kf hr]; kernel_rfl))
theorem ldO {y : OpD} (hy : Je y) (hc : w.rangeAt b f (opV y)) (ho : o.op = .load 70 x := by rfl) (hx : ρ x = .pointer (some ⟨b, f, none⟩) := by rfl) : (execOp ρ o).run Tryz.prog w = .ok (.value (.agg (opV y).toArray)) w :=
  k9 70 x ho hx (run_loadVar_mid w b f _ (opV y) _ hc Tryz.underlying70 rfl (by rw [kq hy]; kernel_rfl))
end
end Go.Proofs.YthjaepmfkgejkaaGreatDoor
namespace Go.Proofs.YthjaepmfkgejkaaGreatDoor
open Go.RowKit Go.Maps
def Kl : List PanicEntry := [{ v := .iface 55 (.agg #[]), recovered := false }]
theorem K5 (w : World) : Calls Tryz.prog 57 #[.bool true] w fun e w' => e = .returned (.tuple #[]) ∧ w' = w := by
  go_enter Tryz.func57, Tryz.ntmps57
  go_wp2
  go_end0
  exact ⟨rfl, rfl⟩
theorem Ks (w : World) : Calls Tryz.prog 57 #[.bool false] w fun e w' => e = .panicked Kl ∧ w' = w := by
  go_enter Tryz.func57, Tryz.ntmps57
  go_wp2
  exact ⟨rfl, rfl, rfl⟩
theorem wpOp_callP {P : Program} {ops : Array Oper} {Q : Exit → Act → World → Prop} {i : Nat} {K : Act → World → Prop} {a : Act} {w : World} {f : FuncId} {args : Array Value} {ch : List PanicEntry} (o : Oper) (hi : Z0 ops.toList i = some o) (hw : Region.wanted o (yielded ops a.tmps) = true)
    (h : (execOp a.eval o).run P w = .ok (.enter f args) w) (hc : Calls P f args w fun e w' => e = .panicked ch ∧ Q (.panic ch) a w') : wpOp P ops Q i K a w := by
  unfold wpOp
  simp only [KM hi, if_pos hw]
  refine .inl ?_
  unfold Oper.wp
  rw [h]
  exact hc.mono fun e w' ⟨he, hk⟩ => by subst he; exact hk
theorem tp {P : Program} {ops : Array Oper} {Q : Exit → Act → World → Prop} {i : Nat} {K : Act → World → Prop} {a : Act} {w : World} {f : FuncId} {o : Oper} {xs : Array Operand} {ts : Array TypeId} (args : Array Value) (hE : ∀ (u : World) (args : Array Value), (callFunc f args).run P u = .ok (.enter f args) u) (hi : Z0 ops.toList i = some o)
    (hc : Calls P f args w fun e w' => e = .panicked Kl ∧ Q (.panic Kl) a w') (ho : o.op = .call { callee := .value (.func f), args := xs, argTypes := ts } := by rfl) (hf : a.eval (.func f) = .func (.func f) #[] #[] := by rfl)
    (hw : Region.wanted o (yielded ops a.tmps) = true := by kernel_rfl) (ha : xs.map a.eval = args := by simp only [List.map_toArray, List.map_cons, List.map_nil]; rfl) : wpOp P ops Q i K a w :=
  wpOp_callP o hi hw (J6 ho hf (fun args w => hE w args) ha) hc
structure RdAt (w : World) (g b off c : Nat) (l : List UInt8) (at' : Nat) : Prop where
  box : w.heap[g]? = some (.cells #[.slice (some ⟨b, off, none⟩) l.length c, .int .i64 (at' : Int)] 59 (0, 0))
  le : at' ≤ l.length
  cap : l.length ≤ c
  low : b < g
  bytes : ∀ j (h : j < l.length), w.cell? ⟨b, off + j, none⟩ = some (.int .u8 ((l[j]).toNat : Int))
def RdGives (g b off c : Nat) (l : List UInt8) (at' : Nat) (w : World) {α : Type} (p : Ps α) (R : α → Value → World → Prop) (e : Ending) (w' : World) : Prop :=
  match p (l.drop at') with
  | some (a, r) => ∃ v at2, e = .returned v ∧ at' ≤ at2 ∧ r = l.drop at2 ∧ RdAt w' g b off c l at2 ∧ But (fun k => k = g) w w' ∧ R a v w'
  | none => e = .panicked Kl ∧ But (fun k => k = g) w w'
section
variable {g b off c at' at2 : Nat} {l : List UInt8} {w w' : World}
theorem RdAt.lt (h : RdAt w g b off c l at') : g < w.heap.size := (Array.getElem?_eq_some_iff.1 h.box).1
theorem RdAt.but {X : Nat → Prop} (h : RdAt w g b off c l at') (hb : But X w w') (hx : ∀ k, k ≤ g → ¬ X k) : RdAt w' g b off c l at' :=
  ⟨(hb.block g h.lt (hx g (Nat.le_refl _))).trans h.box, h.le, h.cap, h.low, fun j hj => (hb.cell (Nat.lt_trans h.low h.lt) (hx b (Nat.le_of_lt h.low))).trans (h.bytes j hj)⟩
theorem RdAt.keep (h : RdAt w g b off c l at') (hb : Below w.heap.size w w') : RdAt w' g b off c l at' := h.but (X := NoB) (But.of_below hb) fun _ _ q => q
theorem RdAt.move (h : RdAt w g b off c l at') (h2 : at2 ≤ l.length) : RdAt (w.setCell ⟨g, 1, none⟩ (.int .i64 (at2 : Int))) g b off c l at2 ∧ But (fun k => k = g) w (w.setCell ⟨g, 1, none⟩ (.int .i64 (at2 : Int))) := by
  have hb : But (fun k => k = g) w (w.setCell ⟨g, 1, none⟩ (.int .i64 (at2 : Int))) := But.setCell (X := fun k => k = g) (But.refl _ _) (p := ⟨g, 1, none⟩) (fun _ => rfl) _
  have hlow := h.low
  refine ⟨⟨?_, h2, h.cap, h.low, fun j hj => ?_⟩, hb⟩
  · have hbox := h.box
    simp [World.setCell, Array.getElem?_modify, hbox]
  · exact (hb.cell (Nat.lt_trans h.low h.lt) (by show ¬ b = g; omega)).trans (h.bytes j hj)
theorem RdAt.frozen (h : RdAt w g b off c l at') (j : Nat) : w.frozen? ⟨g, j, none⟩ = false := by
  have hbox := h.box
  simp [World.frozen?, hbox]
variable {α : Type} {p : Ps α} {R : α → Value → World → Prop} {e : Ending} {a : α} {r : List UInt8}
theorem RdGives.yes {v : Value} (hp : p (l.drop at') = some (a, r)) (he : e = .returned v) (h1 : at' ≤ at2) (hr : r = l.drop at2) (h2 : RdAt w' g b off c l at2) (h3 : But (fun k => k = g) w w') (h4 : R a v w') : RdGives g b off c l at' w p R e w' := by
  unfold RdGives; rw [hp]; exact ⟨v, at2, he, h1, hr, h2, h3, h4⟩
theorem RdGives.no (hp : p (l.drop at') = none) (he : e = .panicked Kl) (h3 : But (fun k => k = g) w w') : RdGives g b off c l at' w p R e w' := by
  unfold RdGives; rw [hp]; exact ⟨he, h3⟩
theorem RdGives.ok (h : RdGives g b off c l at' w p R e w') (hp : p (l.drop at') = some (a, r)) : ∃ v at2, e = .returned v ∧ at' ≤ at2 ∧ r = l.drop at2 ∧ RdAt w' g b off c l at2 ∧ But (fun k => k = g) w w' ∧ R a v w' := by
  unfold RdGives at h; rw [hp] at h; exact h
theorem RdGives.bad (h : RdGives g b off c l at' w p R e w') (hp : p (l.drop at') = none) : e = .panicked Kl ∧ But (fun k => k = g) w w' := by
  unfold RdGives at h; rw [hp] at h; exact h
end
theorem pNum_at {l : List UInt8} {at' n k : Nat} (h : JA (l.drop at') = some (n, k)) : Kj (l.drop at') = some (n, l.drop (at' + k)) := by
  unfold Kj; rw [h]; simp only [List.drop_drop]
theorem pNum_no {l : List UInt8} {at' : Nat} (h : JA (l.drop at') = none) : Kj (l.drop at') = none := by
  unfold Kj; rw [h]
theorem pText_at {l t : List UInt8} {at' k : Nat} (h : zw (l.drop at') 4096 = some (t, k)) : jS (l.drop at') = some (⟨t.toArray⟩, l.drop (at' + k)) := by
  unfold jS; rw [h]; simp only [List.drop_drop]
theorem pText_no {l : List UInt8} {at' : Nat} (h : zw (l.drop at') 4096 = none) : jS (l.drop at') = none := by
  unfold jS; rw [h]
end Go.Proofs.YthjaepmfkgejkaaGreatDoor
namespace Go.Proofs.YthjaepmfkgejkaaGreatDoor
open Lib (hid)
open Go.RowKit Go.Maps
theorem jC (g b off c : Nat) (l : List UInt8) (at' : Nat) (w : World) (hr : RdAt w g b off c l at') (hl : l.length ≤ 1099511627776) :
    Calls Tryz.prog 51 #[.pointer (some ⟨g, 0, none⟩)] w (RdGives g b off c l at' w Kj (fun n v _ => v = .int .i64 (n : Int))) := by
  have HRD := hid hr
  go_enter Tryz.func51, Tryz.ntmps51
  go_upto_region 1 with fail
  have c0 := Wg.cell (show w.cell? ⟨g, 0, none⟩ = some (.slice (some ⟨b, off, none⟩) l.length c) from k5 HRD.out.box 0) HRD.out.lt
  have c1 := Wg.cell (show w.cell? ⟨g, 1, none⟩ = some (.int .i64 (at' : Int)) from k5 HRD.out.box 1) HRD.out.lt
  refine kL (by kernel_rfl) (by kernel_rfl) ?_
  rcases hp : JA (l.drop at') with _ | ⟨n, k⟩
  ·
   have HP := hid hp
   clear hp hr
   have HGET : Hid (∀ u : Wg w, Calls Tryz.prog 87 #[.slice (some ⟨b, off, none⟩) l.length c, .int .i64 (at' : Int)] u.val fun e w'' => e = .returned (.tuple #[.int .i64 0, .int .i64 0, .int .i64 6]) ∧ ∃ m : Wg w, w'' = m.val) := hid (fun (u : Wg w) => (Qv l b off c at' u.val (by unfold maxLen; omega) HRD.out.cap HRD.out.le (fun j hj => Wg.cell (HRD.out.bytes j hj) (Nat.lt_trans HRD.out.low HRD.out.lt) u)).mono fun e w'' ⟨h1, h2⟩ => ⟨by rw [h2, HP.out], u, h1.symm⟩)
   repeat (first
     | go_big_quiet_skip
     | (go_big_quiet_want
        first
          | (go_big_quiet_op
             first
               | go_big_quiet_on
               | go_big_quiet_call (first | (go_at_call 87; exact HGET.out _)))))
   refine wpQuiet_nil ?_
   rintro w' ⟨kk, rfl⟩
   have hk2 := kk.2
   generalize kk.val = w2 at *
   clear kk
   clear c0 c1 HGET
   have HRD2 := hid (HRD.out.keep hk2.below); have HB2 := hid (But.of_below (X := fun k => k = g) hk2.below)
   clear hk2
   go_wp2_with (go_at_call 57; refine (Ks _).mono ?_; rintro e w3 ⟨rfl, rfl⟩)
   exact ⟨rfl, RdGives.no (pNum_no HP.out) rfl HB2.out⟩
  ·
   have HP := hid hp
   have hle : at' + k ≤ l.length := by
     have h1 := (Qq hp).2.1
     have h2 := hr.le
     rw [List.length_drop] at h1
     omega
   clear hp hr
   have HGET : Hid (∀ u : Wg w, Calls Tryz.prog 87 #[.slice (some ⟨b, off, none⟩) l.length c, .int .i64 (at' : Int)] u.val fun e w'' => e = .returned (.tuple #[.int .i64 n, .int .i64 ((at' + k : Nat) : Int), .int .i64 0]) ∧ ∃ m : Wg w, w'' = m.val) := hid (fun (u : Wg w) => (Qv l b off c at' u.val (by unfold maxLen; omega) HRD.out.cap HRD.out.le (fun j hj => Wg.cell (HRD.out.bytes j hj) (Nat.lt_trans HRD.out.low HRD.out.lt) u)).mono fun e w'' ⟨h1, h2⟩ => ⟨by rw [h2, HP.out], u, h1.symm⟩)
   repeat (first
     | go_big_quiet_skip
     | (go_big_quiet_want
        first
          | (go_big_quiet_op
             first
               | go_big_quiet_on
               | go_big_quiet_call (first | (go_at_call 87; exact HGET.out _)))))
   refine wpQuiet_nil ?_
   rintro w' ⟨kk, rfl⟩
   have hk2 := kk.2
   generalize kk.val = w2 at *
   clear kk
   clear c0 c1 HGET
   have HRD2 := hid (HRD.out.keep hk2.below); have HB2 := hid (But.of_below (X := fun k => k = g) hk2.below)
   clear hk2
   have d1 : w2.cell? ⟨g, 1, none⟩ = some (.int .i64 (at' : Int)) := k5 HRD2.out.box 1
   have f1 := HRD2.out.frozen 1
   obtain ⟨hm1, hm2⟩ := HRD2.out.move (at2 := at' + k) hle
   have HM1 := hid hm1; have HM2 := hid hm2
   rw [Int.natCast_add] at HM1 HM2
   clear hm1 hm2
   go_wp2_with (go_at_call 57; refine (K5 _).mono ?_; rintro e w3 ⟨rfl, rfl⟩)
   go_ret
   exact RdGives.yes (pNum_at HP.out) rfl (Nat.le_add_right _ _) rfl HM1.out (HB2.out.trans HM2.out fun _ _ q => q) rfl
theorem zu (g b off c : Nat) (l : List UInt8) (at' : Nat) (w : World) (hr : RdAt w g b off c l at') (hl : l.length ≤ 1099511627776) :
    Calls Tryz.prog 53 #[.pointer (some ⟨g, 0, none⟩)] w (RdGives g b off c l at' w jS (fun t v _ => v = .string t)) := by
  have HRD := hid hr
  go_enter Tryz.func53, Tryz.ntmps53
  go_upto_region 1 with fail
  have hE1 := enE Tryz.func90 rfl
  refine rN 8 (fun u => u.cell? ⟨g, 0, none⟩ = some (.slice (some ⟨b, off, none⟩) l.length c) ∧ u.cell? ⟨g, 1, none⟩ = some (.int .i64 (at' : Int))) (⟨k5 HRD.out.box 0, k5 HRD.out.box 1⟩) fun hF0 => ?_
  refine tw 0 (.pointer (some ⟨g, 0, none⟩)) ?_
  go_frame
  refine tw 1 (.pointer (some ⟨g, 0, none⟩)) ?_
  go_frame
  refine tw 2 (.pointer (some ⟨g, 0, none⟩)) ?_
  go_frame
  rcases hp : zw (l.drop at') 4096 with _ | ⟨t, k⟩
  ·
   have HP := hid hp
   have HGT := hid (fun (e : Ending) (w2 : World) (h : GetTextGives l at' 4096 w.drew e w2) => (show w.drew = w2 ∧ ∃ q : Int, q ≠ 0 ∧ e = .returned (.tuple #[.string ⟨#[]⟩, .int .i64 0, .int .i64 q]) by
     unfold GetTextGives at h; rw [HP.out] at h; exact h))
   clear hp hr
   refine tl 3 (.slice (some ⟨b, off, none⟩) l.length c) rfl hF0 (fun w' hw' => l1 Tryz.underlying22 hw'.1) ?_
   go_frame
   refine tw 4 (.pointer (some ⟨g, 0, none⟩)) ?_
   go_frame
   refine tw 5 (.pointer (some ⟨g, 0, none⟩)) ?_
   go_frame
   refine tw 6 (.pointer (some ⟨g, 1, none⟩)) ?_
   go_frame
   refine tl 7 (.int .i64 (at' : Int)) rfl hF0 (fun w' hw' => l1 Tryz.underlying3 hw'.2) ?_
   go_frame
   refine ta 8 ?_
   refine tc #[.slice (some ⟨b, off, none⟩) l.length c, .int .i64 (at' : Int), .int .i64 4096] hE1 rfl ?_
   refine (U6 l b off c at' 4096 w.drew hl HRD.out.cap HRD.out.le HRD.out.bytes).mono ?_
   rintro e w2 hgt
   obtain ⟨rfl, q, hq, rfl⟩ := HGT.out e w2 hgt
   clear hgt
   refine ⟨_, rfl, fun h => absurd h (by decide), ?_⟩
   go_frame
   refine tw 9 (.tuple #[.string ⟨#[]⟩, .int .i64 0, .int .i64 q]) ?_
   go_frame
   refine tw 10 (.string ⟨#[]⟩) ?_
   go_frame
   refine tw 11 (.int .i64 0) ?_
   go_frame
   refine tw 12 (.int .i64 q) ?_
   go_frame
   refine tw 13 (.string ⟨#[]⟩) ?_
   go_frame
   refine tw 14 (.int .i64 0) ?_
   go_frame
   refine tw 15 (.int .i64 q) ?_
   go_frame
   refine kv (by kernel_rfl) ?_ _
   have HRD2 := hid (HRD.out.keep (Below.refl _ _).drew)
   have dq : (q == 0) = false := by rw [beq_eq_false_iff_ne]; exact hq
   have HQ := hid hq
   clear hq
   go_wp2_with (go_at_call 57; refine (Ks _).mono ?_; rintro e w3 ⟨rfl, rfl⟩)
   exact ⟨rfl, RdGives.no (pText_no HP.out) rfl (But.refl (fun k => k = g) w).drew⟩
  ·
   have HP := hid hp
   have hle : at' + k ≤ l.length := by
     have h1 := (vH hp).2.1
     have h2 := hr.le
     rw [List.length_drop] at h1
     omega
   have HGT := hid (fun (e : Ending) (w2 : World) (h : GetTextGives l at' 4096 w.drew e w2) => (show w.drew = w2 ∧ e = .returned (.tuple #[.string ⟨t.toArray⟩, .int .i64 ((at' + k : Nat) : Int), .int .i64 0]) by
     unfold GetTextGives at h; rw [HP.out] at h; exact h))
   clear hp hr
   refine tl 3 (.slice (some ⟨b, off, none⟩) l.length c) rfl hF0 (fun w' hw' => l1 Tryz.underlying22 hw'.1) ?_
   go_frame
   refine tw 4 (.pointer (some ⟨g, 0, none⟩)) ?_
   go_frame
   refine tw 5 (.pointer (some ⟨g, 0, none⟩)) ?_
   go_frame
   refine tw 6 (.pointer (some ⟨g, 1, none⟩)) ?_
   go_frame
   refine tl 7 (.int .i64 (at' : Int)) rfl hF0 (fun w' hw' => l1 Tryz.underlying3 hw'.2) ?_
   go_frame
   refine ta 8 ?_
   refine tc #[.slice (some ⟨b, off, none⟩) l.length c, .int .i64 (at' : Int), .int .i64 4096] hE1 rfl ?_
   refine (U6 l b off c at' 4096 w.drew hl HRD.out.cap HRD.out.le HRD.out.bytes).mono ?_
   rintro e w2 hgt
   obtain ⟨rfl, rfl⟩ := HGT.out e w2 hgt
   clear hgt
   refine ⟨_, rfl, fun h => absurd h (by decide), ?_⟩
   go_frame
   refine tw 9 (.tuple #[.string ⟨t.toArray⟩, .int .i64 ((at' + k : Nat) : Int), .int .i64 0]) ?_
   go_frame
   refine tw 10 (.string ⟨t.toArray⟩) ?_
   go_frame
   refine tw 11 (.int .i64 ((at' + k : Nat) : Int)) ?_
   go_frame
   refine tw 12 (.int .i64 0) ?_
   go_frame
   refine tw 13 (.string ⟨t.toArray⟩) ?_
   go_frame
   refine tw 14 (.int .i64 ((at' + k : Nat) : Int)) ?_
   go_frame
   refine tw 15 (.int .i64 0) ?_
   go_frame
   refine kv (by kernel_rfl) ?_ _
   have HRD2 := hid (HRD.out.keep (Below.refl _ _).drew)
   have d1 : w.drew.cell? ⟨g, 1, none⟩ = some (.int .i64 (at' : Int)) := k5 HRD2.out.box 1
   have f1 := HRD2.out.frozen 1
   obtain ⟨hm1, hm2⟩ := HRD2.out.move (at2 := at' + k) hle
   have HM1 := hid hm1; have HM2 := hid ((But.refl (fun k => k = g) w).drew.trans hm2 fun _ _ q => q)
   clear hm1 hm2
   go_wp2_with (go_at_call 57; refine (K5 _).mono ?_; rintro e w3 ⟨rfl, rfl⟩)
   go_ret
   exact RdGives.yes (pText_at HP.out) rfl (Nat.le_add_right _ _) rfl (by first | exact HM1.out | (rw [← Int.natCast_add]; exact HM1.out)) (by first | exact HM2.out | (rw [← Int.natCast_add]; exact HM2.out)) rfl
end Go.Proofs.YthjaepmfkgejkaaGreatDoor
namespace Go.Proofs.YthjaepmfkgejkaaGreatDoor
open Lib (hid)
open Go.RowKit Go.Maps
theorem rbyte_no (g n c at' : Nat) (A : Option Addr) (w : World) (hb : w.heap[g]? = some (.cells #[.slice A n c, .int .i64 (at' : Int)] 59 (0, 0))) (hn : n ≤ at') :
    Calls Tryz.prog 50 #[.pointer (some ⟨g, 0, none⟩)] w fun e w' => e = .panicked Kl ∧ w' = w.drew := by
  have HB := hid hb
  clear hb
  have d1 : decide ((at' : Int) < (n : Int)) = false := by simp; omega
  have hE1 := enE Tryz.func57 rfl
  go_enter Tryz.func50, Tryz.ntmps50
  go_upto_region 1 with fail
  refine rN 10 (fun u => u.cell? ⟨g, 0, none⟩ = some (.slice A n c) ∧ u.cell? ⟨g, 1, none⟩ = some (.int .i64 (at' : Int))) (⟨k5 HB.out 0, k5 HB.out 1⟩) fun hF0 => ?_
  refine tw 0 (.pointer (some ⟨g, 0, none⟩)) ?_
  go_frame
  refine tw 1 (.pointer (some ⟨g, 0, none⟩)) ?_
  go_frame
  refine tw 2 (.pointer (some ⟨g, 1, none⟩)) ?_
  go_frame
  refine tl 3 (.int .i64 (at' : Int)) rfl hF0 (fun w' hw' => l1 Tryz.underlying3 hw'.2) ?_
  go_frame
  refine tw 4 (.pointer (some ⟨g, 0, none⟩)) ?_
  go_frame
  refine tw 5 (.pointer (some ⟨g, 0, none⟩)) ?_
  go_frame
  refine tw 6 (.pointer (some ⟨g, 0, none⟩)) ?_
  go_frame
  refine tl 7 (.slice A n c) rfl hF0 (fun w' hw' => l1 Tryz.underlying22 hw'.1) ?_
  go_frame
  refine tk 8 (.int .i64 (n : Int)) rfl (fun w' hw' => Uw 22 _ rfl rfl Tryz.underlying22) ?_
  go_frame
  refine tk 9 (.bool false) rfl (fun w' hw' => by go_simp) ?_
  go_frame
  refine ta 10 ?_
  refine tp #[.bool false] hE1 rfl ?_
  refine (Ks _).mono ?_
  rintro e w2 ⟨rfl, rfl⟩
  exact ⟨rfl, rfl, rfl, rfl⟩
theorem JI (g b off c : Nat) (l : List UInt8) (at' : Nat) (w : World) (hr : RdAt w g b off c l at') (hl : l.length ≤ 1099511627776) :
    Calls Tryz.prog 50 #[.pointer (some ⟨g, 0, none⟩)] w (RdGives g b off c l at' w Z3 (fun k v _ => v = .int .u8 (k.toNat : Int))) := by
  have HRD := hid hr
  by_cases hlt : at' < l.length
  ·
   have hd : l.drop at' = l[at'] :: l.drop (at' + 1) := List.drop_eq_getElem_cons hlt
   have HP : Hid (Z3 (l.drop at') = some (l[at'], l.drop (at' + 1))) := hid (by rw [hd]; rfl)
   have hle : at' + 1 ≤ l.length := hlt
   have d1 : decide ((at' : Int) < (l.length : Int)) = true := by simp; omega
   have i1 : (at' : Int) < (l.length : Int) := by omega
   clear hd hr
   go_enter Tryz.func50, Tryz.ntmps50
   go_upto_region 1 with fail
   have c0 := Wg.cell (show w.cell? ⟨g, 0, none⟩ = some (.slice (some ⟨b, off, none⟩) l.length c) from k5 HRD.out.box 0) HRD.out.lt
   have c1 := Wg.cell (show w.cell? ⟨g, 1, none⟩ = some (.int .i64 (at' : Int)) from k5 HRD.out.box 1) HRD.out.lt
   refine kL (by kernel_rfl) (by kernel_rfl) ?_
   repeat (first
     | go_big_quiet_skip
     | (go_big_quiet_want
        first
          | (go_big_quiet_op
             first
               | go_big_quiet_on
               | go_big_quiet_call (first | (go_at_call 57; exact (K5 _).mono fun e w'' ⟨he, hw⟩ => ⟨he, ⟨_, hw⟩⟩)))))
   refine wpQuiet_nil ?_
   rintro w' ⟨kk, rfl⟩
   have hk2 := kk.2
   generalize kk.val = w2 at *
   clear kk
   clear c0 c1
   have HRD2 := hid (HRD.out.keep hk2.below); have HB2 := hid (But.of_below (X := fun k => k = g) hk2.below)
   clear hk2
   have e1 : w2.cell? ⟨g, 1, none⟩ = some (.int .i64 (at' : Int)) := k5 HRD2.out.box 1
   have f1 := HRD2.out.frozen 1
   obtain ⟨hm1, hm2⟩ := HRD2.out.move (at2 := at' + 1) hle
   have HM1 := hid hm1; have HM2 := hid hm2
   rw [Int.natCast_add] at HM1 HM2
   clear hm1 hm2
   go_upto_region 3 with fail
   obtain ⟨w3, hw3⟩ : ∃ w3, w2.setCell ⟨g, 1, none⟩ (.int .i64 ((at' : Int) + 1)) = w3 := ⟨_, rfl⟩
   have HM1' : Hid (RdAt w3 g b off c l (at' + 1)) := by rw [← hw3]; exact HM1
   have HM2' : Hid (But (fun k => k = g) w2 w3) := by rw [← hw3]; exact HM2
   rw [hw3]
   clear e1 f1 HM1 HM2 hw3
   have c0 := Wg.cell (show w3.cell? ⟨g, 0, none⟩ = some (.slice (some ⟨b, off, none⟩) l.length c) from k5 HM1'.out.box 0) HM1'.out.lt
   have c1 := Wg.cell (show w3.cell? ⟨g, 1, none⟩ = some (.int .i64 ((at' + 1 : Nat) : Int)) from k5 HM1'.out.box 1) HM1'.out.lt
   have cb := Wg.cell (HM1'.out.bytes at' hlt) (Nat.lt_trans HM1'.out.low HM1'.out.lt)
   have e2 : IntKind.i64.wrap (((at' + 1 : Nat) : Int) - 1) = (at' : Int) := by rw [IntWalk.i64_in _ (by omega)]; omega
   have e3 : IntKind.i64.wrap ((at' : Int) + 1 - 1) = (at' : Int) := by rw [IntWalk.i64_in _ (by omega)]; omega
   have i0 : (0 : Int) ≤ (at' : Int) := by omega
   generalize l[at'] = x at *
   refine kL (by kernel_rfl) (by kernel_rfl) ?_
   repeat (first
     | go_big_quiet_skip
     | (go_big_quiet_want
        first
          | (go_big_quiet_op
             first
               | go_big_quiet_on
               | go_big_quiet_call (first | (fail)))))
   refine wpQuiet_nil ?_
   rintro w' ⟨kk, rfl⟩
   have hk4 := kk.2
   generalize kk.val = w4 at *
   clear kk c0 c1 cb
   have HRD4 := hid (HM1'.out.keep hk4.below); have HB4 := hid (But.of_below (X := fun k => k = g) hk4.below)
   go_wp2_with fail
   go_ret
   exact RdGives.yes HP.out rfl (Nat.le_add_right _ _) rfl HRD4.out ((HB2.out.trans HM2'.out fun _ _ q => q).trans HB4.out fun _ _ q => q) rfl
  ·
   have hn : l.length ≤ at' := by omega
   have HP : Hid (Z3 (l.drop at') = none) := hid (by rw [List.drop_eq_nil_of_le hn]; rfl)
   refine (rbyte_no g l.length c at' _ w hr.box hn).mono ?_
   rintro e w2 ⟨rfl, rfl⟩
   exact RdGives.no HP.out rfl (But.refl (fun k => k = g) w).drew
end Go.Proofs.YthjaepmfkgejkaaGreatDoor
