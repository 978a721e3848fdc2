/-
  slices.Clone of ids, of operations. Condition: lists of at most 2^30.
-/
import Derived.Test.YtdgbjhfkmembdaaGreatDoorStateClaim
import Derived.Test.YtdgbjhfkmembdaaGreatDoorShort0
import Derived.Test.YtdgbjhfkmembdaaGreatDoorHandL
import Derived.BigFrame
import Derived.Lib.RowBridge
namespace Go.Proofs.YtdgbjhfkmembdaaGreatDoor
open Go.RowKit Go.Maps Go.Shelf
set_option linter.unusedVariables false
set_option linter.unusedSimpArgs false

/-- 'append(s, l...)', s a row of the call's own, l any slice. -/
theorem wp_appL {P : Program} {ops : Array Oper} {rest : List Oper} {o : Oper} {a : Act} {w : World} {Q : Exit → Act → World → Prop} (hw : Region.wanted o (yielded ops a.tmps) = true) (s x : Operand) (t : TypeId)
    (ho : o.op = .call { callee := .builtin .append, args := #[s, x], argTypes := #[t, t] })
    (base : Nat) (e : TypeId) (z : Value) (size bytes : Nat) (ht : P.underlying t = some (.slice e)) (hinf : (P.info? e).map (fun i => (i.zero, i.size, i.bytes)) = some (some z, size, bytes))
    (hzs : z.cells.size = size) (hsz : 0 < size)
    (v : Value) (n : Nat) (xs : List Value) (hs : a.eval s = v) (hown : w.ownsRow base e size v n xs)
    (A : Option Addr) (m c B : Nat) (news : List Value) (hx : a.eval x = .slice A m c) (hsl : Sl w B A m size news) (h1 : ∀ u ∈ news, u.oneCell' = true)
    (h63 : n + m ≤ maxLen) (hbytes : (n + m) * bytes ≤ 140737488355328) (hbase : base ≤ w.heap.size)
    (h : ∀ v' w', w'.ownsRow base e size v' (n + m) (xs ++ news) → w.grownBy w' v.ownBlock → wpList P ops Q rest (a.put o.dst v') w') : wpList P ops Q (o :: rest) a w := by
  obtain ⟨i, hi, hz0, hz2, hz3⟩ := info_parts hinf
  refine BigFrame.wpList_want hw fun K hK => ?_
  exact wp_append_sl s x t ho base e i z size bytes ht hi hz0 hz2 hz3 hzs hsz v n xs hs hown A m c B news hx hsl h1 h63 hbytes hbase fun v' w' h2 h3 => hK _ _ (h v' w' h2 h3)
theorem infoOp15 : (Tryz.prog.info? 112).map (fun i => (i.zero, i.size, i.bytes)) = some (some (.agg (opV (0, zeroRef, zeroRef, noneS, 0, noneS)).toArray), 70, 128) := by kernel_rfl
set_option maxHeartbeats 2000000 in
set_option maxRecDepth 100000 in
theorem cloneIds15 (l : List (List UInt8)) (A : Option Addr) (c : Nat) (w : World) (hn : l.length ≤ 1073741824) (hsl : Sl w w.heap.size A l.length 32 (idsV l)) :
    Calls Tryz.prog 42 #[.slice A l.length c] w fun e w' => Below w.heap.size w w' ∧ ∃ v, e = .returned v ∧ w'.ownsRow w.heap.size 41 32 v l.length (idsV l) := by
  have enil : ∀ (w : World) (a : Option Addr) (n c n' c' : Nat), (binOp .eql 34 (.slice a n c) (.slice none n' c')).run Tryz.prog w = .ok (.bool a.isNone) w := fun w a n c n' c' => Lib.run_eql_slice_nil w _ _ a n c n' c' Tryz.underlying34
  rcases A with _ | ad
  · have h0 : l.length = 0 := by
      rcases Nat.eq_zero_or_pos l.length with h | h
      · exact h
      · obtain ⟨b, off, e, _⟩ := hsl.2 h; cases e
    obtain rfl : l = [] := List.length_eq_zero_iff.1 h0
    clear h0 hsl
    have enl := enil w none 0 c 0 0
    go_enter Tryz.func42, Tryz.ntmps42
    go_wp2_with fail
    go_ret
    exact ⟨Below.refl _ _, _, rfl, World.ownsRow_nil _ _ _ _⟩
  · have HSL := Lib.hid hsl
    have how := own_made0 w w.heap.size 41 32 (Nat.le_refl _)
    have hb1 : Below w.heap.size w (w.alloc (.cells #[] 41)) := (Below.refl _ _).alloc (Nat.le_refl _) _
    have HOW := Lib.hid how; have HB1 := Lib.hid hb1
    clear hsl how hb1
    go_enter Tryz.func42, Tryz.ntmps42
    go_wp2_with (at_builtin; refine wp_appL (by rfl) _ _ 34 rfl w.heap.size 41 (.agg (idV zero32).toArray) 32 32 Tryz.underlying34 infoId rfl (by decide) (.slice (some ⟨w.heap.size, 0, none⟩) 0 0) 0 [] rfl HOW.out (some ad) l.length c w.heap.size (idsV l) rfl (HSL.out.keep HB1.out) (idsV_one _) (by unfold maxLen; omega) (by omega) (by simp) ?_; intro v' w' ho hg
                 rw [Nat.zero_add, List.nil_append] at ho
                 obtain ⟨A2, c2, hv2⟩ : ∃ A c, v' = .slice A l.length c := own_form ho
                 subst hv2
                 have HO := Lib.hid ho
                 have HB2 := Lib.hid (HB1.out.grown hg (by simp) (fun k e => by have h5 : w.heap.size = k := (by simpa [Value.ownBlock] using e); omega))
                 clear ho hg)
    go_ret
    exact ⟨HB2.out, _, rfl, HO.out⟩
set_option maxHeartbeats 2000000 in
set_option maxRecDepth 100000 in
theorem cloneOps15 (l : List OpD) (A : Option Addr) (c : Nat) (w : World) (hn : l.length ≤ 1073741824) (hsl : Sl w w.heap.size A l.length 70 (rowsV opV l)) :
    Calls Tryz.prog 43 #[.slice A l.length c] w fun e w' => Below w.heap.size w w' ∧ ∃ v, e = .returned v ∧ w'.ownsRow w.heap.size 112 70 v l.length (rowsV opV l) := by
  have enil : ∀ (w : World) (a : Option Addr) (n c n' c' : Nat), (binOp .eql 35 (.slice a n c) (.slice none n' c')).run Tryz.prog w = .ok (.bool a.isNone) w := fun w a n c n' c' => Lib.run_eql_slice_nil w _ _ a n c n' c' Tryz.underlying35
  rcases A with _ | ad
  · have h0 : l.length = 0 := by
      rcases Nat.eq_zero_or_pos l.length with h | h
      · exact h
      · obtain ⟨b, off, e, _⟩ := hsl.2 h; cases e
    obtain rfl : l = [] := List.length_eq_zero_iff.1 h0
    clear h0 hsl
    have enl := enil w none 0 c 0 0
    go_enter Tryz.func43, Tryz.ntmps43
    go_wp2_with fail
    go_ret
    exact ⟨Below.refl _ _, _, rfl, World.ownsRow_nil _ _ _ _⟩
  · have HSL := Lib.hid hsl
    have how := own_made0 w w.heap.size 112 70 (Nat.le_refl _)
    have hb1 : Below w.heap.size w (w.alloc (.cells #[] 112)) := (Below.refl _ _).alloc (Nat.le_refl _) _
    have HOW := Lib.hid how; have HB1 := Lib.hid hb1
    clear hsl how hb1
    go_enter Tryz.func43, Tryz.ntmps43
    go_wp2_with (at_builtin; refine wp_appL (by rfl) _ _ 35 rfl w.heap.size 112 (.agg (opV (0, zeroRef, zeroRef, noneS, 0, noneS)).toArray) 70 128 Tryz.underlying35 infoOp15 rfl (by decide) (.slice (some ⟨w.heap.size, 0, none⟩) 0 0) 0 [] rfl HOW.out (some ad) l.length c w.heap.size (rowsV opV l) rfl (HSL.out.keep HB1.out) (fun u hu => by obtain ⟨x, hx, hu⟩ := List.mem_flatMap.1 hu; exact opV_one x u hu) (by unfold maxLen; omega) (by omega) (by simp) ?_; intro v' w' ho hg
                 rw [Nat.zero_add, List.nil_append] at ho
                 obtain ⟨A2, c2, hv2⟩ : ∃ A c, v' = .slice A l.length c := own_form ho
                 subst hv2
                 have HO := Lib.hid ho
                 have HB2 := Lib.hid (HB1.out.grown hg (by simp) (fun k e => by have h5 : w.heap.size = k := (by simpa [Value.ownBlock] using e); omega))
                 clear ho hg)
    go_ret
    exact ⟨HB2.out, _, rfl, HO.out⟩
end Go.Proofs.YtdgbjhfkmembdaaGreatDoor
