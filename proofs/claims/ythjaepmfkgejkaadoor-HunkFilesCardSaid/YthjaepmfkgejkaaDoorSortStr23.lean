/-
  slices.Clone of files; slices.Sort and slices.Compact of texts that the call has built. Conditions: as each says.
-/
import Derived.Test.YthjaepmfkgejkaaDoorByPath23
import Derived.Test.YthjaepmfkgejkaaDoorMerged2
import Derived.Test.YthjaepmfkgejkaaDoorMoves23A
import Derived.Test.YthjaepmfkgejkaaDoorMerged1
import Derived.Test.YthjaepmfkgejkaaDoorNumWalk23
import Derived.Sort.OwnSorted
import Derived.BigFrame
import Derived.Lib.RowBridge
namespace Go.Proofs.YthjaepmfkgejkaaDoor
open Go.RowKit Go.Maps Go.Shelf Go.Sort
set_option linter.unusedVariables false
set_option linter.unusedSimpArgs false

/-- 'append(s, l...)', s a row of the call's own, l any slice. -/
theorem wp_appL {P : Program} {ops : Array Oper} {rest : List Oper} {o : Oper} {a : Act} {w : World} {Q : Exit → Act → World → Prop} (hw : Region.wanted o (yielded ops a.tmps) = true) (s x : Operand) (t : TypeId)
    (ho : o.op = .call { callee := .builtin .append, args := #[s, x], argTypes := #[t, t] })
    (base : Nat) (e : TypeId) (z : Value) (size bytes : Nat) (ht : P.underlying t = some (.slice e)) (hinf : (P.info? e).map (fun i => (i.zero, i.size, i.bytes)) = some (some z, size, bytes))
    (hzs : z.cells.size = size) (hsz : 0 < size)
    (v : Value) (n : Nat) (xs : List Value) (hs : a.eval s = v) (hown : w.ownsRow base e size v n xs)
    (A : Option Addr) (m c B : Nat) (news : List Value) (hx : a.eval x = .slice A m c) (hsl : Sl w B A m size news) (h1 : ∀ u ∈ news, u.oneCell' = true)
    (h63 : n + m ≤ maxLen) (hbytes : (n + m) * bytes ≤ 140737488355328) (hbase : base ≤ w.heap.size)
    (h : ∀ v' w', w'.ownsRow base e size v' (n + m) (xs ++ news) → w.grownBy w' v.ownBlock → wpList P ops Q rest (a.put o.dst v') w') : wpList P ops Q (o :: rest) a w := by
  obtain ⟨i, hi, hz0, hz2, hz3⟩ := info_parts hinf
  refine BigFrame.wpList_want hw fun K hK => ?_
  exact wp_append_sl s x t ho base e i z size bytes ht hi hz0 hz2 hz3 hzs hsz v n xs hs hown A m c B news hx hsl h1 h63 hbytes hbase fun v' w' h2 h3 => hK _ _ (h v' w' h2 h3)
set_option maxHeartbeats 2000000 in
set_option maxRecDepth 100000 in
theorem cloneF_any (fs : List FileD) (A : Option Addr) (c : Nat) (w : World) (hn : fs.length ≤ 100000) (hsl : Sl w w.heap.size A fs.length 2 (cells2 fs)) :
    Calls Tryd.prog 37 #[.slice A fs.length c] w fun e w' => Below w.heap.size w w' ∧ ∃ v, e = .returned v ∧ w'.ownsRow w.heap.size 55 2 v fs.length (cells2 fs) := by
  have enil : ∀ (w : World) (a : Option Addr) (n c n' c' : Nat), (binOp .eql 53 (.slice a n c) (.slice none n' c')).run Tryd.prog w = .ok (.bool a.isNone) w := fun w a n c n' c' => Lib.run_eql_slice_nil w _ _ a n c n' c' Tryd.underlying53
  rcases A with _ | ad
  · have h0 : fs.length = 0 := by
      rcases Nat.eq_zero_or_pos fs.length with h | h
      · exact h
      · obtain ⟨b, off, e, _⟩ := hsl.2 h; cases e
    obtain rfl : fs = [] := List.length_eq_zero_iff.1 h0
    clear h0 hsl
    have enl := enil w none 0 c 0 0
    go_enter Tryd.func37, Tryd.ntmps37
    go_wp2_with fail
    go_ret
    exact ⟨Below.refl _ _, _, rfl, World.ownsRow_nil _ _ _ _⟩
  · have HSL := Lib.hid hsl
    have how := own_made0 w w.heap.size 55 2 (Nat.le_refl _)
    have hb1 : Below w.heap.size w (w.alloc (.cells #[] 55)) := (Below.refl _ _).alloc (Nat.le_refl _) _
    have HOW := Lib.hid how; have HB1 := Lib.hid hb1
    clear hsl how hb1
    go_enter Tryd.func37, Tryd.ntmps37
    go_wp2_with (refine wp_appL (by rfl) _ _ 53 rfl w.heap.size 55 (.agg #[.string ⟨#[]⟩, .string ⟨#[]⟩]) 2 32 Tryd.underlying53 fileInfo rfl (by decide) (.slice (some ⟨w.heap.size, 0, none⟩) 0 0) 0 [] rfl HOW.out (some ad) fs.length c w.heap.size (cells2 fs) rfl (HSL.out.keep HB1.out) (cells2_one fs) (by unfold maxLen; omega) (by omega) (by simp) ?_; intro v' w' ho hg
                 rw [Nat.zero_add, List.nil_append] at ho
                 obtain ⟨A2, c2, hv2⟩ : ∃ A c, v' = .slice A fs.length c := own_shape23 ho
                 subst hv2
                 have HO := Lib.hid ho
                 have HB2 := Lib.hid (HB1.out.grown hg (by simp) (fun k e => by have h5 : w.heap.size = k := (by simpa [Value.ownBlock] using e); omega))
                 clear ho hg)
    go_ret
    exact ⟨HB2.out, _, rfl, HO.out⟩
theorem encStr_L (s : ByteArray) : encStr (L s) = .string s := by
  show Value.string ⟨(L s).toArray⟩ = _
  congr 1
theorem strs_enc (ss : List ByteArray) : strs ss = (ss.map L).map encStr := by
  unfold strs
  rw [List.map_map]
  exact List.map_congr_left fun s _ => (encStr_L s).symm
def sortS (P : List (List UInt8)) : List (List UInt8) := P.mergeSort fun x y => decide (x ≤ y)
theorem sortS_length (P : List (List UInt8)) : (sortS P).length = P.length := by simp [sortS]
theorem sortStr_any (P : List (List UInt8)) (base g c : Nat) (w : World) (hn : P.length ≤ 100000) (ho : w.ownsRow base 9 1 (.slice (some ⟨g, 0, none⟩) P.length c) P.length (P.map encStr)) :
    Calls Tryd.prog 38 #[.slice (some ⟨g, 0, none⟩) P.length c] w fun e w' => e = .returned (.tuple #[]) ∧ w.grownBy w' (some g) ∧ w'.ownsRow base 9 1 (.slice (some ⟨g, 0, none⟩) (sortS P).length c) (sortS P).length ((sortS P).map encStr) := by
  rcases ho.2 with ⟨h, _⟩ | ⟨g', cap, cur, h, hb, hh, h1, h2, h3, h4⟩
  · cases h
  · have hv : g = g' ∧ c = cap := by injection h with h h5 h6; injection h with h; injection h with h; exact ⟨h, h6⟩
    obtain ⟨rfl, rfl⟩ := hv
    refine (Tryd.slices_Sort_string g 0 c P w (holds_of_block hh (by simpa using h4)) (Array.getElem?_eq_some_iff.1 hh).1 (by omega)).mono ?_
    rintro e w' ⟨rfl, n, os, rfl⟩
    refine ⟨rfl, grownBy_sorted _, ?_⟩
    have := ownsRow_sorted (w := w) (n := n) (os := os) (ts := sortS P) (sortS_length P) hb hh h1 h2 h3
    rw [sortS_length]
    exact this
theorem compactStr_any (P : List (List UInt8)) (base g c : Nat) (w : World) (hn : P.length ≤ 100000) (ho : w.ownsRow base 9 1 (.slice (some ⟨g, 0, none⟩) P.length c) P.length (P.map encStr)) :
    Calls Tryd.prog 39 #[.slice (some ⟨g, 0, none⟩) P.length c] w fun e w' => e = .returned (.slice (some ⟨g, 0, none⟩) (Lib.compact P).length c) ∧ w.grownBy w' (some g) ∧ Sl w' w'.heap.size (some ⟨g, 0, none⟩) (Lib.compact P).length 1 ((Lib.compact P).map encStr) := by
  rcases ho.2 with ⟨h, _⟩ | ⟨g', cap, cur, h, hb, hh, h1, h2, h3, h4⟩
  · cases h
  · have hv : g = g' ∧ c = cap := by injection h with h h5 h6; injection h with h; injection h with h; exact ⟨h, h6⟩
    obtain ⟨rfl, rfl⟩ := hv
    refine (Tryd.slices_Compact_string g 0 c P w (holds_of_block hh (by simpa using h4)) (by omega) h1).mono ?_
    rintro e w' ⟨rfl, n, rfl⟩
    have hlc : (Lib.compact P).length ≤ P.length := Lib.compact_length_le P
    have hgr := grownBy_sorted (w := w) (g := g) (n := n) (os := #[]) ((Lib.compact P ++ List.replicate (P.length - (Lib.compact P).length) []).toArray)
    have hhs := heap_sorted (w := w) (g := g) (n := n) (os := #[]) ((Lib.compact P ++ List.replicate (P.length - (Lib.compact P).length) []).toArray) hh
    rw [grow_empty] at hgr hhs
    refine ⟨rfl, hgr, by simp, fun _ => ⟨g, 0, rfl, (Array.getElem?_eq_some_iff.1 hhs).1, fun j u hj => ?_⟩⟩
    have hjl : j < (Lib.compact P).length := by have := (List.getElem?_eq_some_iff.1 hj).1; simpa using this
    have ht := take_putCells cur (Lib.compact P ++ List.replicate (P.length - (Lib.compact P).length) []) (by simp; omega)
    have hlen : (Lib.compact P ++ List.replicate (P.length - (Lib.compact P).length) []).length = P.length := by simp; omega
    have h5 := congrArg (fun l => l[j]?) ht
    simp only [hlen] at h5
    rw [List.getElem?_take_of_lt (by omega)] at h5
    rw [List.map_append, List.getElem?_append_left (by simpa using hjl), hj] at h5
    rw [Nat.zero_add, cells_box hhs j]
    exact h5
end Go.Proofs.YthjaepmfkgejkaaDoor
