/-
  What the program's utf.Encode gives of a small rune. Condition: below 128.
-/
import Derived.Test.YtdgbjhfkmembdaaGreatDoorStateNils
import Derived.Test.YtdgbjhfkmembdaaGreatDoorPieceSpec
import Derived.Test.YtdgbjhfkmembdaaGreatDoorUtfWalks
namespace Go.Proofs.YtdgbjhfkmembdaaGreatDoor
open Go.RowKit Go.Maps
set_option linter.unusedVariables false
set_option linter.unusedSimpArgs false

set_option maxHeartbeats 4000000 in
set_option maxRecDepth 100000 in
theorem encode_small (r : Nat) (h : r < 128) (w : World) : Calls Tryz.prog 133 #[.int .i32 (r : Int)] w fun e w' => Below w.heap.size w w' ∧ e = .returned (.tuple #[.string ⟨(encU r).toArray⟩, .int .i64 0]) := by
  have hm : mayB (r : Int) = true := by unfold mayB; simp; omega
  have i1 : (r : Int) < 128 := by omega
  have hmf : ∀ (fn : Fn) (first cap : Array Value) (w : World), (Instr.makeFunc fn first cap).run Tryz.prog w = .ok (.func fn first cap) w := fun _ _ _ _ => rfl
  have ew : IntKind.u8.wrap (r : Int) = (r : Int) := by
    unfold IntKind.wrap; simp [IntKind.bits, IntKind.signed]; omega
  have hcell : ((w.alloc (.cells #[.int .i32 (r : Int)] 21)).alloc (.cells #[.int .u8 (r : Int)] 5)).cell? ⟨w.heap.size + 1, 0, none⟩ = some (.int .u8 (r : Int)) := by
    have := heap_alloc_new (w.alloc (.cells #[.int .i32 (r : Int)] 21)) (.cells #[.int .u8 (r : Int)] 5)
    rw [World.size_alloc] at this
    exact cells_at0 (cs := [.int .u8 (r : Int)]) this 0
  have hconv : (convert 169 9 (.slice (some ⟨w.heap.size + 1, 0, none⟩) 1 1)).run Tryz.prog ((w.alloc (.cells #[.int .i32 (r : Int)] 21)).alloc (.cells #[.int .u8 (r : Int)] 5)) = .ok (.string ⟨#[UInt8.ofNat r]⟩) ((w.alloc (.cells #[.int .i32 (r : Int)] 21)).alloc (.cells #[.int .u8 (r : Int)] 5)) := by
    have h1 := Lib.run_convert_window (P := Tryz.prog) ((w.alloc (.cells #[.int .i32 (r : Int)] 21)).alloc (.cells #[.int .u8 (r : Int)] 5)) 169 5 9 Tryz.underlying169 Tryz.underlying5 Tryz.underlying9 (w.heap.size + 1) 0 ⟨#[UInt8.ofNat r]⟩ (fun i hi => by
      have h0 : i = 0 := by
        have : i < 1 := hi
        omega
      subst h0
      show World.cell? _ ⟨w.heap.size + 1, 0, none⟩ = some (.int .u8 (((UInt8.ofNat r).toNat : Nat) : Int))
      rw [hcell, UInt8.toNat_ofNat_of_lt' (by show r < 256; omega)]) 0 1 1 (Nat.le_refl 1)
    exact h1
  go_enter Tryz.func133, Tryz.ntmps133
  go_wp2_with (first
    | (go_at_call 180; refine (may_any (r : Int) _ (by omega) (by omega)).mono ?_; rintro e w1 ⟨rfl, rfl⟩; rw [hm]))
  go_ret2
  refine ⟨((qB _ _).alloc (qR _) _).alloc (by simp) _, ?_⟩
  unfold encU
  rw [if_pos h]
  rfl
end Go.Proofs.YtdgbjhfkmembdaaGreatDoor
