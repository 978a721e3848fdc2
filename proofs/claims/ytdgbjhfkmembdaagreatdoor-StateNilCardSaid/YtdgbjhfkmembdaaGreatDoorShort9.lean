/-
  Steps of a region taken by hand, in fewer words. Conditions: none.
-/
import Derived.Shelf.Abstract
import Derived.Test.YtdgbjhfkmembdaaGreatDoorHandN
namespace Go.Proofs.YtdgbjhfkmembdaaGreatDoor
open Go.RowKit
set_option linter.unusedVariables false

section
variable {P : Program} {md : Region.Mode} {ops : Array Oper} {Q : Exit → Act → World → Prop} {n : Nat} {F : World → Prop}
theorem tk (i : Nat) (v : Value) {oi : Oper} {fuel : Nat} {listed : Array Bool} {a : Act} {w : World} (hi : opAt ops.toList i = some oi) (hv : ∀ w' : World, True → (execOp a.eval oi).run P w' = .ok (.value v) w')
    (h : wpAnyN P md ops Q n F fuel (listed.setIfInBounds i true) (a.put oi.dst v) w) (hB : tkB md ops listed i = true := by kernel_rfl) (hQ : ∀ c a w, Q (.panic c) (a.put oi.dst v) w → Q (.panic c) a w := by exact fun _ _ _ h => h)
    (hw : Region.wanted oi (yielded ops a.tmps) = true := by rfl) : wpAnyN P md ops Q n F (fuel + 1) listed a w := tkW i v hB hi hQ hw hv h
theorem tl (i : Nat) (v : Value) {oi : Oper} {fuel : Nat} {listed : Array Bool} {a : Act} {w : World} (hi : opAt ops.toList i = some oi) (hF : F w) (hv : ∀ w' : World, F w' → (execOp a.eval oi).run P w' = .ok (.value v) w')
    (h : wpAnyN P md ops Q n F fuel (listed.setIfInBounds i true) (a.put oi.dst v) w) (hB : (lateB md ops n i && tkB md ops listed i) = true := by kernel_rfl) (hQ : ∀ c a w, Q (.panic c) (a.put oi.dst v) w → Q (.panic c) a w := by exact fun _ _ _ h => h)
    (hw : Region.wanted oi (yielded ops a.tmps) = true := by rfl) : wpAnyN P md ops Q n F (fuel + 1) listed a w := tkF i v hB hi hQ hw hF hv h
theorem tc {i : Nat} {K : Act → World → Prop} {a : Act} {w : World} {f : FuncId} {o : Oper} {xs : Array Operand} {ts : Array TypeId} (args : Array Value) (hE : ∀ (u : World) (args : Array Value), (callFunc f args).run P u = .ok (.enter f args) u) (hi : opAt ops.toList i = some o)
    (hc : Calls P f args w fun e w' => ∃ v, e = .returned v ∧ K (a.put o.dst v) w') (ho : o.op = .call { callee := .value (.func f), args := xs, argTypes := ts } := by rfl) (hf : a.eval (.func f) = .func (.func f) #[] #[] := by rfl)
    (hw : Region.wanted o (yielded ops a.tmps) = true := by kernel_rfl) (ha : xs.map a.eval = args := by simp only [List.map_toArray, List.map_cons, List.map_nil]; rfl) : wpOp P ops Q i K a w :=
  wpOp_call o hi hw (ex_callFn ho hf (fun args w => hE w args) ha) hc
end
theorem l1 {P : Program} {ρ : Operand → Value} {o : Oper} {w : World} {ty : TypeId} {x : Operand} {p : Addr} {d : TypeDesc} {v : Value} (hu : P.underlying ty = some d) (hc : w.cell? p = some v) (ho : o.op = .load ty x := by rfl) (hx : ρ x = .pointer (some p) := by rfl) (hd : (match d with | .struct _ | .array _ _ => true | _ => false) = false := by rfl) : (execOp ρ o).run P w = .ok (.value v) w := ex_load1 ty x ho hx hu hd hc
theorem rN {P : Program} {ops : Array Oper} {Q : Exit → Act → World → Prop} {id : Nat} {a : Act} {w : World} (n : Nat) (F : World → Prop) (hF : F w.drew) (h : F w.drew → wpAnyN P .any ops Q n F ops.size (Array.replicate ops.size false) a w.drew) (hm : P.follows .mixedOrders = true := by kernel_rfl) : (Code.region id ops true).wp P Q a w := wp_region_N n F hm (h hF)
theorem nTF : (!true) = false ∧ (!false) = true := ⟨rfl, rfl⟩
theorem enE {P : Program} {f : FuncId} {fn : Func} {c : Code} (hf : P.funcs[f]? = some fn) (hb : fn.body = some c) (hn : (fn.name == "runtime.NumGoroutine") = false := by kernel_rfl) : ∀ (u : World) (args : Array Value), (callFunc f args).run P u = .ok (.enter f args) u := fun u args => enters_of hf hn hb args u
theorem ex_indexG {P : Program} {ρ : Operand → Value} {o : Oper} {w : World} (t : TypeId) (x y : Operand) (ho : o.op = .indexAddr t x y) {b off n c q size : Nat} (hx : ρ x = .slice (some ⟨b, off, none⟩) n c) (hy : ρ y = .int .i64 (q : Int)) (hq : q < n) {e : TypeId} (ht : P.underlying t = some (.slice e)) (hi : (P.info? e).map (·.size) = some size) :
    (execOp ρ o).run P w = .ok (.value (.pointer (some ⟨b, off + q * size, none⟩))) w := by
  cases hp : P.info? e with
  | none => simp [hp] at hi
  | some i =>
    have hs : i.size = size := by simpa [hp] using hi
    unfold execOp
    simp [ho, hx, hy, Instr.indexAt, asIntOf, run_underlying ht, sizeOf, typeInfo, hp, hs, Sem.run_bind, Result.andThen, hq, Addr.add]
    try omega
end Go.Proofs.YtdgbjhfkmembdaaGreatDoor
