/-
  Objects and bytes that came in, read. Conditions: none.
-/
import Derived.Test.YthjaepmfkgejkaaGreatDoorObjMem
import Derived.Test.YthjaepmfkgejkaaGreatDoorFrame
import Derived.Test.YthjaepmfkgejkaaGreatDoorObjCap
namespace Go.Proofs.YthjaepmfkgejkaaGreatDoor
open Go.RowKit Go.ChangeShapes Go.WideShapes Go.ChangeAt
set_option linter.unusedVariables false

section
variable {H : Type} {enc : TypeId × Value → H} {W : World} {base : Nat} {spare : Nat → Bool} {held : Bool} {fuel : Nat} {cs : List Value} {x : DataW H × List MemPlace}
theorem u8_arg {n : Int} (h : (Lit.int .u8 n).wf = true) : ∃ k : UInt8, n = (k.toNat : Int) := by
  simp only [Lit.wf, IntKind.min, IntKind.max, IntKind.signed, IntKind.bits, Bool.and_eq_true] at h
  simp at h
  refine ⟨UInt8.ofNat n.toNat, ?_⟩
  rw [UInt8.toNat_ofNat_of_lt' (by show n.toNat < 256; omega)]
  omega
instance : Inhabited (List UInt8) := ⟨[]⟩
instance : Inhabited OpD := ⟨(0, zeroRef, zeroRef, noneS, 0, noneS)⟩
theorem bytes_in {A : Option Addr} {n c : Nat} {d : DataW H} {ps : List MemPlace} (h : DataW.Trod enc Tryz.prog W 0 (fun _ => true) true 22 (.slice A n c) d ps) :
    ∃ l : List UInt8, l.length = n ∧ n ≤ maxLen ∧ n ≤ c ∧ Sl W W.heap.size A l.length 1 (idV l) := by
  obtain ⟨l, h1, h2, h3, _, h5⟩ := open_rows (α := UInt8) (ok := fun _ => True) (enc := fun b => [.int .u8 (b.toNat : Int)]) Tryz.underlying22 cellsU8 (by decide) (fun x hx => rfl) (fun n cs x hx => by
    obtain ⟨k0, e0, _, w0⟩ := DataW.trod_int Tryz.underlying5 hx
    obtain ⟨k, rfl⟩ := u8_arg w0
    exact ⟨k, trivial, e0⟩) h
  refine ⟨l, h1, h2, h3, ?_⟩
  have e : rowsV (fun b : UInt8 => [Value.int .u8 (b.toNat : Int)]) l = idV l := by
    unfold rowsV idV
    have hf : ∀ l : List UInt8, (l.flatMap fun b : UInt8 => [Value.int .u8 (b.toNat : Int)]) = l.map fun b => Value.int .u8 (b.toNat : Int) := fun l => by
      induction l with
      | nil => rfl
      | cons a l ih => rw [List.flatMap_cons, ih]; rfl
    exact hf l
  rw [← e]
  exact h5
end
end Go.Proofs.YthjaepmfkgejkaaGreatDoor
