/-
  What turning a word gives, the program's and the document's; the document's key. Conditions: a word of 32 bits, turned by 1 to 31.
-/
import Derived.Test.YtdgbjhfkmembdaaGreatDoorShaSpec
import Derived.Test.YtdgbjhfkmembdaaGreatDoorStoreM
import Derived.Test.YtdgbjhfkmembdaaGreatDoorAtOp
import Derived.Test.YtdgbjhfkmembdaaGreatDoorObjMem
import Derived.Deep.Cut
import Derived.Deep.DeepCutAuto
namespace Go.Proofs.YtdgbjhfkmembdaaGreatDoor
open Go.RowKit Go.Maps
set_option linter.unusedVariables false

set_option maxRecDepth 100000 in
theorem refRot_any (x : Int) (n : Nat) (hx : W32 x) (h0 : 1 ≤ n) (h1 : n ≤ 31) (w : World) : Calls Tryz.prog 164 #[.int .u32 x, .int .u64 (n : Int)] w fun e w' => e = .returned (.int .u32 (rotS n x)) ∧ w = w' := by
  obtain ⟨x0, x1⟩ := hx
  go_enter Tryz.func164, Tryz.ntmps164
  go_wp2
  go_ret
  exact ⟨rfl, rfl⟩
theorem and31 : ∀ n : Fin 32, 1 ≤ n.val → bits BinOp.and IntKind.u64 (IntKind.u64.wrap (-(n.val : Int))) 31 = ((32 - n.val : Nat) : Int) := by decide +kernel
set_option maxRecDepth 100000 in
theorem rotL_any (x : Int) (n : Nat) (hx : W32 x) (h0 : 1 ≤ n) (h1 : n ≤ 31) (w : World) : Calls Tryz.prog 257 #[.int .u32 x, .int .i64 (-(n : Int))] w fun e w' => e = .returned (.int .u32 (rotS n x)) ∧ w = w' := by
  obtain ⟨x0, x1⟩ := hx
  have ha := and31 ⟨n, by omega⟩ h0
  obtain ⟨m, hm⟩ : ∃ m, 32 - n = m := ⟨_, rfl⟩
  simp only at ha
  rw [hm] at ha
  have h2 : 1 ≤ m := by omega
  have h3 : m ≤ 31 := by omega
  have HM := Lib.hid hm
  clear hm
  go_enter Tryz.func257, Tryz.ntmps257
  go_wp2
  go_ret
  refine ⟨?_, rfl⟩
  show Ending.returned (.int .u32 (bits BinOp.or IntKind.u32 (x * 2 ^ m % 4294967296) (x / 2 ^ (32 - m)))) = _
  have e1 : 32 - m = n := by have := HM.out; omega
  unfold rotS
  rw [bits_or_comm, HM.out, e1]
set_option maxRecDepth 100000 in
theorem turn_any (x : Int) (n : Nat) (hx : W32 x) (h0 : 1 ≤ n) (h1 : n ≤ 31) (w : World) : Calls Tryz.prog 233 #[.int .u32 x, .int .i64 (n : Int)] w fun e w' => e = .returned (.int .u32 (rotS n x)) ∧ w = w' := by
  go_enter Tryz.func233, Tryz.ntmps233
  go_wp2_with (go_at_call 257; refine (rotL_any x n hx h0 h1 w).mono ?_; rintro e w' ⟨rfl, rfl⟩)
  go_ret
  exact ⟨rfl, rfl⟩
def w32V (l : List Int) : List Value := l.map fun x => .int .u32 x
theorem w32V_length (l : List Int) : (w32V l).length = l.length := List.length_map _
theorem w32V_one (l : List Int) : ∀ u ∈ w32V l, u.oneCell' = true := by
  intro u hu
  obtain ⟨x, _, rfl⟩ := List.mem_map.1 hu
  rfl
theorem w32V_at {l : List Int} {i : Nat} (h : i < l.length) : (w32V l)[i]? = some (.int .u32 (l.getD i 0)) := by
  unfold w32V
  rw [List.getElem?_map, List.getElem?_eq_getElem h, List.getD_eq_getElem?_getD, List.getElem?_eq_getElem h]
  rfl
set_option maxRecDepth 100000 in
theorem keys_built (w : World) : (Instr.build 289 #[(0, .int .u32 1116352408), (1, .int .u32 1899447441), (2, .int .u32 3049323471), (3, .int .u32 3921009573), (4, .int .u32 961987163), (5, .int .u32 1508970993), (6, .int .u32 2453635748), (7, .int .u32 2870763221), (8, .int .u32 3624381080), (9, .int .u32 310598401), (10, .int .u32 607225278), (11, .int .u32 1426881987), (12, .int .u32 1925078388), (13, .int .u32 2162078206), (14, .int .u32 2614888103), (15, .int .u32 3248222580), (16, .int .u32 3835390401), (17, .int .u32 4022224774), (18, .int .u32 264347078), (19, .int .u32 604807628), (20, .int .u32 770255983), (21, .int .u32 1249150122), (22, .int .u32 1555081692), (23, .int .u32 1996064986), (24, .int .u32 2554220882), (25, .int .u32 2821834349), (26, .int .u32 2952996808), (27, .int .u32 3210313671), (28, .int .u32 3336571891), (29, .int .u32 3584528711), (30, .int .u32 113926993), (31, .int .u32 338241895), (32, .int .u32 666307205), (33, .int .u32 773529912), (34, .int .u32 1294757372), (35, .int .u32 1396182291), (36, .int .u32 1695183700), (37, .int .u32 1986661051), (38, .int .u32 2177026350), (39, .int .u32 2456956037), (40, .int .u32 2730485921), (41, .int .u32 2820302411), (42, .int .u32 3259730800), (43, .int .u32 3345764771), (44, .int .u32 3516065817), (45, .int .u32 3600352804), (46, .int .u32 4094571909), (47, .int .u32 275423344), (48, .int .u32 430227734), (49, .int .u32 506948616), (50, .int .u32 659060556), (51, .int .u32 883997877), (52, .int .u32 958139571), (53, .int .u32 1322822218), (54, .int .u32 1537002063), (55, .int .u32 1747873779), (56, .int .u32 1955562222), (57, .int .u32 2024104815), (58, .int .u32 2227730452), (59, .int .u32 2361852424), (60, .int .u32 2428436474), (61, .int .u32 2756734187), (62, .int .u32 3204031479), (63, .int .u32 3329325298)]).run Tryz.prog w = .ok (.agg (w32V keysS).toArray) w := by kernel_rfl
set_option maxHeartbeats 4000000 in
set_option maxRecDepth 100000 in
theorem refKey_any (t : Nat) (ht : t < 64) (w : World) : Calls Tryz.prog 165 #[.int .i64 (t : Int)] w fun e w' => e = .returned (.int .u32 (keyS t)) ∧ Below w.heap.size w w' := by
  go_enter Tryz.func165, Tryz.ntmps165
  go_upto_region 2 with (first
    | (refine wp_val (by rfl) (ex_build 289 _ rfl (keys_built _)) ?_)
    | (with_reducible refine at_alloc ?_
       refine wp_allocM (by rfl) 289 rfl (List.replicate 64 (.int .u32 0)) (by kernel_rfl) ?_
       intro W0 hb0 hz0 hs0
       have HB0 := Lib.hid hb0; have HZ0 := Lib.hid hz0; have HS0 := Lib.hid hs0
       clear hb0 hz0 hs0)
    | (with_reducible refine at_store ?_
       refine wp_storeM (by rfl) 289 _ _ rfl w.heap.size 0 [] (List.replicate 64 (.int .u32 0)) [] (w32V keysS) 289 (.agg (w32V keysS).toArray) rfl rfl rfl rfl (by simpa using HZ0.out) rfl (by kernel_rfl) (w32V_one _) ?_
       intro W1 hb1 hy1 hs1
       have HB1 := Lib.hid (HB0.out.trans (hb1.below HB0.out.size (fun k hk e => by omega)))
       have HY1 : Hid (W1.heap[w.heap.size]? = some (.cells (w32V keysS).toArray 289 (0, 0))) := Lib.hid (by simpa using hy1)
       clear hb1 hy1 hs1))
  have ck : W1.cell? ⟨w.heap.size, t, none⟩ = some (.int .u32 (keyS t)) := (cells_at0 HY1.out t).trans (w32V_at (l := keysS) ht)
  go_wp2
  go_ret
  exact ⟨rfl, HB1.out⟩
end Go.Proofs.YtdgbjhfkmembdaaGreatDoor
