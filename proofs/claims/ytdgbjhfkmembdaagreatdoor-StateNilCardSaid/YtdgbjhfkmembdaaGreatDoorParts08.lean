/-
  What object.parts gives: the table of the kinds, as a map. No conditions.
-/
import Derived.Test.YtdgbjhfkmembdaaGreatDoorObjMem
namespace Go.Proofs.YtdgbjhfkmembdaaGreatDoor
open Go.RowKit Go.Maps
set_option linter.unusedVariables false

def U8Ok (_ : UInt8) : Prop := True
def u8K (k : UInt8) : Value := .int .u8 (k.toNat : Int)
def u8L (k : UInt8) : Lit := .int .u8 (k.toNat : Int)
theorem keyedU8 : Keyed Tryz.prog 5 := int_keyed Tryz.underlying5
theorem u8_wf (k : UInt8) : (Lit.int .u8 (k.toNat : Int)).wf = true := by
  simp only [Lit.wf, IntKind.min, IntKind.max, IntKind.signed, IntKind.bits, Bool.and_eq_true]
  have := k.toNat_lt
  simp
  omega
theorem u8Enc : KeyEnc Tryz.prog 5 U8Ok u8K u8L := ⟨keyedU8, fun k hk => by
  have hk := u8_wf k
  simp [keyOf, mapKey, u8K, u8L, Tryz.underlying5, hk], fun a b h => by
  unfold u8K at h
  injection h with _ h
  exact UInt8.toNat_inj.1 (by omega)⟩
/-- The parts of a kind, as cells. -/
def partV (p : PartD) : Value := .agg #[.bool p.1, .bool p.2.1, .bool p.2.2.1, .bool p.2.2.2.1, .bool p.2.2.2.2]
def noPart : PartD := (false, false, false, false, false)
def partsM (k : UInt8) : Option Value := (partsOf k).map partV
/-- The table. -/
def PartsAt (w : World) (v : Value) : Prop := ∃ g n, v = .map (some g) ∧ MapV w Tryz.prog 5 U8Ok u8L g n partsM
/-- An entry of a map literal. -/
theorem wp_mapIns {P : Program} {K : TypeId} {κ : Type} {ok : κ → Prop} {val : κ → Value} {kl : κ → Lit} {w : World} {b n : Nat} {m : κ → Option Value} {ops : Array Oper} {rest : List Oper} {o : Oper} {a : Act} {Q : Exit → Act → World → Prop} [DecidableEq κ] (hg : o.guard = none) (mo x v : Operand) (t : TypeId) (hop : o.op = Op.insert t mo x v)
    (e : TypeId) (E : KeyEnc P K ok val kl) (ht : P.underlying t = some (.map K e)) (hm : a.eval mo = .map (some b)) (hown : MapV w P K ok kl b n m) (hn : n < maxLen) (k0 : κ) (hk : ok k0) (hx : a.eval x = val k0) (v0 : Value) (hv : a.eval v = v0)
    (h : ∀ w', MapV w' P K ok kl b (n + 1) (fun k => if k = k0 then some v0 else m k) → w.grownBy w' (some b) → wpList P ops Q rest (a.put o.dst undef) w') :
    wpList P ops Q (o :: rest) a w := by
  obtain ⟨D, h1, h2, h3, h4⟩ := hown
  refine wpList_plain hg fun K' hK' => ?_
  obtain ⟨w', hrun, r1, r2⟩ := h1.update E.keyed ht hn (E.of k0 hk) (d := .held v0) (ps := []) rfl
  obtain ⟨g1, g2, g3⟩ := put_view E h2 h3 h4 hk v0
  unfold Oper.wp
  simp [execOp, hop, hm, hx, hv, hrun, Result.andThen]
  exact hK' _ _ (h w' ⟨_, r1, g1, g2, g3⟩ r2)
theorem partZero (w : World) : (zeroValue 320).run Tryz.prog w = .ok (partV noPart) w := by kernel_rfl
set_option maxHeartbeats 1000000 in
set_option maxRecDepth 100000 in
theorem parts_any (w : World) : Calls Tryz.prog 195 #[] w fun e w' => Below w.heap.size w w' ∧ ∃ v, e = .returned v ∧ PartsAt w' v ∧ ∃ g, v = .map (some g) ∧ w.heap.size ≤ g := by
  have hmm := @run_makeMap Tryz.prog
  have hm0 := MapV.made w Tryz.prog 5 U8Ok u8L
  have HM := Lib.hid hm0; clear hm0
  have hb0 : Below w.heap.size w (w.alloc (.map #[] 0)) := (Below.refl _ _).alloc (Nat.le_refl _) _
  have HB := Lib.hid hb0; clear hb0
  go_enter Tryz.func195, Tryz.ntmps195
  go_wp2_with (first
    | (refine wp_mapIns rfl _ _ _ 317 rfl 320 u8Enc Tryz.underlying317 rfl HM.out (by unfold maxLen; omega) 1 trivial rfl _ rfl ?_; intro w1 hm1 hg1; have HM1 := Lib.hid hm1; have HB1 := Lib.hid (HB.out.grown hg1 HB.out.size (fun k e => (by injection e with e; omega))); clear hm1 hg1 HM HB)
    | (refine wp_mapIns rfl _ _ _ 317 rfl 320 u8Enc Tryz.underlying317 rfl HM1.out (by unfold maxLen; omega) 2 trivial rfl _ rfl ?_; intro w2 hm2 hg2; have HM2 := Lib.hid hm2; have HB2 := Lib.hid (HB1.out.grown hg2 HB1.out.size (fun k e => (by injection e with e; omega))); clear hm2 hg2 HM1 HB1)
    | (refine wp_mapIns rfl _ _ _ 317 rfl 320 u8Enc Tryz.underlying317 rfl HM2.out (by unfold maxLen; omega) 3 trivial rfl _ rfl ?_; intro w3 hm3 hg3; have HM3 := Lib.hid hm3; have HB3 := Lib.hid (HB2.out.grown hg3 HB2.out.size (fun k e => (by injection e with e; omega))); clear hm3 hg3 HM2 HB2)
    | (refine wp_mapIns rfl _ _ _ 317 rfl 320 u8Enc Tryz.underlying317 rfl HM3.out (by unfold maxLen; omega) 4 trivial rfl _ rfl ?_; intro w4 hm4 hg4; have HM4 := Lib.hid hm4; have HB4 := Lib.hid (HB3.out.grown hg4 HB3.out.size (fun k e => (by injection e with e; omega))); clear hm4 hg4 HM3 HB3)
    | (refine wp_mapIns rfl _ _ _ 317 rfl 320 u8Enc Tryz.underlying317 rfl HM4.out (by unfold maxLen; omega) 5 trivial rfl _ rfl ?_; intro w5 hm5 hg5; have HM5 := Lib.hid hm5; have HB5 := Lib.hid (HB4.out.grown hg5 HB4.out.size (fun k e => (by injection e with e; omega))); clear hm5 hg5 HM4 HB4))
  go_ret
  refine ⟨HB5.out, _, rfl, ⟨w.heap.size, 5, rfl, ?_⟩, w.heap.size, rfl, Nat.le_refl _⟩
  have := HM5.out
  refine cast (congrArg (MapV _ _ _ _ _ _ _) ?_) this
  funext k
  unfold partsM partsOf
  by_cases h1 : k = 1
  · subst h1; rfl
  by_cases h2 : k = 2
  · subst h2; rfl
  by_cases h3 : k = 3
  · subst h3; rfl
  by_cases h4 : k = 4
  · subst h4; rfl
  by_cases h5 : k = 5
  · subst h5; rfl
  simp [h1, h2, h3, h4, h5]
end Go.Proofs.YtdgbjhfkmembdaaGreatDoor
