/-
  maps.Keys at the register's map: its iterator hands out every key once, in some order. Condition: the map is one that the call made.
-/
import Derived.Test.YtdgbjhfkmembdaaGreatDoorIterIn
import Derived.Test.YtdgbjhfkmembdaaGreatDoorKeyMap
import Derived.Test.YtdgbjhfkmembdaaGreatDoorLasts
namespace Go.Proofs.YtdgbjhfkmembdaaGreatDoor
open Go.RowKit Go.Maps
set_option linter.unusedVariables false
set_option linter.unusedSimpArgs false

abbrev KeyS := {k : KeyD // KeyOk k}
theorem keyV_info {k : KeyD} (h : KeyOk k) : (Tryz.prog.info? 89).map (·.size) = some (keyV k).toArray.size := by rw [List.size_toArray, keyV_length h]; exact sizeKey
theorem zeroKey : (Tryz.prog.info? 89).map (·.zero) = some (some (keyA (0, zero32, 0))) := by kernel_rfl

set_option maxRecDepth 100000 in
set_option maxHeartbeats 1000000 in
theorem keysIter_in (F : Fence) (n : Nat) (hf : F.fn 126) (hro : F.round = none) (hn : 1 ≤ n) (l Bm b nn : Nat) (m : KeyD → Option Value) (J Jx : List KeyS → World → Prop)
    (hY : ∀ pre x W, J pre W → pre.length < nn → YieldAt F (n - 1) Tryz.prog l #[keyA x.1] W fun e W' => (e = .returned (.bool true) ∧ J (pre ++ [x]) W' ∧ KeepsWalks W W') ∨ (e = .returned (.bool false) ∧ Jx (pre ++ [x]) W'))
    (W : World) (hJ : AbidesFrom W.heap.size J) (hm : W.cell? ⟨Bm, 0, none⟩ = some (.map (some b))) (hown : MapV W Tryz.prog 89 KeyOk keyL b nn m) (h0 : J [] W) :
    CallsIn F n Tryz.prog 126 #[.func (.yield l) #[] #[], .pointer (some ⟨Bm, 0, none⟩)] W fun e W' => (∃ v, e = .returned v) ∧ ((∃ ss : List KeyS, (KeysIs m ss ∧ ss.length ≤ nn) ∧ J ss W') ∨ (∃ pre, True ∧ Jx pre W')) := by
  obtain ⟨D, hD, hK, hh, hv⟩ := hown
  have hsz := hD.size_le
  have HK := Lib.hid hK; have HH := Lib.hid hh
  clear hK hh hv
  refine callsIn_of_wp Tryz.func126 rfl hf ?_ hro
  simp only [Tryz.ntmps126, List.size_toArray, List.length_cons, List.length_nil, Nat.reduceAdd, Nat.reduceSub, Array.replicate_succ, Array.replicate_zero, List.push_toArray, List.append_toArray, List.nil_append, List.cons_append]
  gi_wp2_with (first
    | (gi_at_range; refine wpListIn_range_own _ rfl _ 159 rfl 89 135 keyedKey Tryz.underlying159 Rv b nn _ rfl hD ?_; intro w0 hrg0 hg0 hs0)
    | gi_in)
  go_frame
  gi_loopw [3] (fun _ wr => ∃ (left : Lit → Bool) (cnt : Nat) (ss : List KeyS), wr.ranges Tryz.prog 89 Rv b W.heap.size nn D left cnt ∧ ss.length + cnt ≤ Maps.size D ∧ CollK keyL D left ss ∧ J ss wr)
    (fun _ wr => wr.rangeLeft b W.heap.size)
  case atStart =>
    exact ⟨_, _, [], hrg0, by simp, CollK.start D, hJ [] W w0 none h0 hg0 (fun r e => by cases e)⟩
  case round =>
    obtain ⟨left, cnt, ss, hrg, hcs, hC, hJs⟩ := hrel
    gi_wp2_with (first
      | (gi_at_next; refine wpListIn_next_ranges _ rfl _ rfl 89 keyedKey Rv (id : Value → Value) (id : Value → Value) (fun key kl hk => ⟨key, rfl⟩) (fun v y hv => ⟨v, rfl⟩) b W.heap.size nn _ _ _ rfl hrg ?_ ?_)
      | gi_in)
    · intro hc0 hl0
      gi_wp2
      go_end0
      exact ⟨⟨_, rfl⟩, .inl ⟨ss, ⟨hC.done hl0 HH.out, by omega⟩, hJs⟩⟩
    · intro x c kl yd yp w2 cnt2 hkey hlk hv hat hrg2 hlt hg2 hs2 hen
      have hhas := has_true_of_atKey hat
      obtain ⟨k, hk, rfl⟩ := HK.out.2 _ hhas
      have hxk : x = keyA k := keyedKey.inj hkey (keyEnc.of k hk)
      subst hxk
      have hJ2 : J ss w2 := hJ ss wr w2 (some W.heap.size) hJs hg2 (fun r e => by cases e; exact ⟨Nat.le_refl _, hrg.iter_walk⟩)
      clear hs2 hkey hv hat
      obtain ⟨g1, g2, g3⟩ := grown_box w2 (keyV (0, zero32, 0)).toArray (keyV k).toArray 89
      have hJ3 : J ss _ := hJ ss w2 _ none hJ2 g1 (fun r e => by cases e)
      have hrg3 := hrg2.of_walks (KeepsWalks.of_grownBy g1 (fun j o e => by cases e))
      have hst := fun (ρ : Operand → Value) (o : Oper) (x y : Operand) (ho : o.op = .store 89 x y) hx hy => ex_storeRow (P := Tryz.prog) (w := w2.alloc (.cells (keyV (0, zero32, 0)).toArray 89)) (ρ := ρ) 89 x y ho w2.heap.size (keyV k).toArray hx hy 89 (keyV (0, zero32, 0)).toArray (heap_alloc_new _ _) (keyV_info hk) (by rw [List.size_toArray, List.size_toArray, keyV_length hk]; rfl) (by simpa using keyV_one k)
      generalize (w2.alloc (.cells (keyV (0, zero32, 0)).toArray 89)).setRow w2.heap.size (keyV k).toArray = w3 at *
      have hld := fun (ρ : Operand → Value) (o : Oper) (x : Operand) (ho : o.op = .load 89 x) hx => ex_load (P := Tryz.prog) (ρ := ρ) (w := w3) 89 x ho (p := ⟨w2.heap.size, 0, none⟩) hx (run_loadVar_row w3 w2.heap.size 89 89 _ (0, 0) _ g2 Tryz.underlying89 rfl (keyV_info hk))
      obtain ⟨fn, tmps, assign, body, hy, hR⟩ := hY ss ⟨k, hk⟩ w3 hJ3 (by omega)
      simp only [keyA] at hy hen
      have HST := Lib.hid hst; have HLD := Lib.hid hld; have G2 := Lib.hid g2
      clear hst hld g1 g2 g3
      have HEN := Lib.hid hen
      gi_wp2_with (first
        | (refine wpListIn_none rfl (by intro c h; cases h) (by intro c h; cases h) (HST.out _ _ _ _ rfl rfl rfl) ?_)
        | (refine wpListIn_val rfl (by intro c h; cases h) (by intro c h; cases h) (HLD.out _ _ _ rfl rfl) ?_)
        | gi_in)
      refine hR.mono ?_
      rintro e W4 (⟨rfl, hJ4, hk4⟩ | ⟨rfl, hJ4⟩)
      · have hrg4 := hrg3.of_walks hk4
        gi_wp2
        go_roundw
        case rel => exact ⟨_, cnt2, ss ++ [⟨k, hk⟩], hrg4, by simp; omega, hC.step (x := ⟨k, hk⟩) keyEnc hlk hhas, hJ4⟩
        case measure => rw [hrg4.left_eq, hrg.left_eq]; exact hlt
      · gi_wp2
        refine bodyPost_ret (results_none rfl _ _ _) rfl ?_
        exact ⟨⟨_, rfl⟩, .inr ⟨_, trivial, hJ4⟩⟩
theorem keys_gives (F : Fence) (n : Nat) (hf : F.fn 126) (hro : F.round = none) (hn : 1 ≤ n) (Bm b nn : Nat) (m : KeyD → Option Value) (w : World) (hBm : Bm < w.heap.size)
    (hm : w.cell? ⟨Bm, 0, none⟩ = some (.map (some b))) (hown : MapV w Tryz.prog 89 KeyOk keyL b nn m) :
    SeqStopsK F n Tryz.prog 126 #[.pointer (some ⟨Bm, 0, none⟩)] (fun x : KeyS => #[keyA x.1]) KeepsWalks (fun ss => KeysIs m ss ∧ ss.length ≤ nn) (fun _ => True) nn w := fun l J Jx W hW hJ hJx hY h0 =>
  keysIter_in F n hf hro hn l Bm b nn m J Jx hY W hJ ((hW.cell (p := ⟨Bm, 0, none⟩) hBm).trans hm) (hown.below hW) h0

set_option maxHeartbeats 1000000 in
theorem keysSeq_in (F : Fence) (n : Nat) (hf : F.fn 76) (hro : F.round = none) (mb : Option Nat) (w : World) :
    CallsIn F n Tryz.prog 76 #[.map mb] w fun e w' => e = .returned (.func (.func 126) #[] #[.pointer (some ⟨w.heap.size, 0, none⟩)]) ∧ w' = w.alloc (.cells #[.map mb] 159) := by
  refine callsIn_of_wp Tryz.func76 rfl hf ?_ hro
  simp only [Tryz.ntmps76, List.size_toArray, List.length_cons, List.length_nil, Nat.reduceAdd, Nat.reduceSub, Array.replicate_succ, Array.replicate_zero, List.push_toArray, List.append_toArray, List.nil_append, List.cons_append]
  gi_wp2
  go_ret
  exact ⟨rfl, rfl⟩
end Go.Proofs.YtdgbjhfkmembdaaGreatDoor
