/-
  Where a walk stands: at an operation of a kind. Each law gives back its goal; taken 'with_reducible' it serves as a test ahead of a law that is dear where it does not fit. Over any program.
-/
import Derived.Test.YtdgbjhfkmembdaaGreatDoorMem
namespace Go.Proofs.YtdgbjhfkmembdaaGreatDoor
set_option linter.unusedVariables false

section
variable {P : Program} {ops : Array Oper} {Q : Exit → Act → World → Prop} {rest : List Oper} {a : Act} {w : World} {d : Option Tmp} {t : TypeId} {p : String} {af : Array Edge} {g : Option (Nat × Bool)}
theorem at_load {ty : TypeId} {x : Operand} (h : wpList P ops Q ({ dst := d, op := .load ty x, type := t, pos := p, after := af, guard := g } :: rest) a w) : wpList P ops Q ({ dst := d, op := .load ty x, type := t, pos := p, after := af, guard := g } :: rest) a w := h
theorem at_store {ty : TypeId} {x y : Operand} (h : wpList P ops Q ({ dst := d, op := .store ty x y, type := t, pos := p, after := af, guard := g } :: rest) a w) : wpList P ops Q ({ dst := d, op := .store ty x y, type := t, pos := p, after := af, guard := g } :: rest) a w := h
theorem at_alloc {ty : TypeId} (h : wpList P ops Q ({ dst := d, op := .alloc ty, type := t, pos := p, after := af, guard := g } :: rest) a w) : wpList P ops Q ({ dst := d, op := .alloc ty, type := t, pos := p, after := af, guard := g } :: rest) a w := h
theorem at_box {ty : TypeId} {x : Operand} (h : wpList P ops Q ({ dst := d, op := .box ty x, type := t, pos := p, after := af, guard := g } :: rest) a w) : wpList P ops Q ({ dst := d, op := .box ty x, type := t, pos := p, after := af, guard := g } :: rest) a w := h
theorem at_build {ty : TypeId} {xs : Array (Nat × Operand)} (h : wpList P ops Q ({ dst := d, op := .build ty xs, type := t, pos := p, after := af, guard := g } :: rest) a w) : wpList P ops Q ({ dst := d, op := .build ty xs, type := t, pos := p, after := af, guard := g } :: rest) a w := h
theorem at_binOp {b : BinOp} {ty tz : TypeId} {x y : Operand} (h : wpList P ops Q ({ dst := d, op := .binOp b ty x y tz, type := t, pos := p, after := af, guard := g } :: rest) a w) : wpList P ops Q ({ dst := d, op := .binOp b ty x y tz, type := t, pos := p, after := af, guard := g } :: rest) a w := h
end
end Go.Proofs.YtdgbjhfkmembdaaGreatDoor
