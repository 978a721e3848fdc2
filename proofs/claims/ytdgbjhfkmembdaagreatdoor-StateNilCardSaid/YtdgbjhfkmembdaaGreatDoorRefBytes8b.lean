/-
  The document's Bytes of a commit. Conditions: the commit may be.
-/
import Derived.Test.YtdgbjhfkmembdaaGreatDoorShort0
import Derived.Test.YtdgbjhfkmembdaaGreatDoorRefBytes8
import Derived.Test.YtdgbjhfkmembdaaGreatDoorOrdMerge
import Derived.Test.YtdgbjhfkmembdaaGreatDoorObjRight3
import Derived.Test.YtdgbjhfkmembdaaGreatDoorObjSame
import Derived.Test.YtdgbjhfkmembdaaGreatDoorBuild
import Derived.Test.YtdgbjhfkmembdaaGreatDoorAtOp
import Derived.Test.YtdgbjhfkmembdaaGreatDoorStoreM
namespace Go.Proofs.YtdgbjhfkmembdaaGreatDoor
open Go.RowKit Go.Maps
set_option linter.unusedVariables false
set_option linter.unusedSimpArgs false

/-- What stands while bytes are put together: the row so far, some boxes. -/
structure BySt (w : World) (L : List (Nat × List Value × TypeId)) (ys : List UInt8) (A : Option Addr) (n c : Nat) (wx : World) : Prop where
  bel : Below w.heap.size w wx
  own : wx.ownsRow w.heap.size 5 1 (.slice A n c) n (idV ys)
  len : ys.length = n
  boxes : ∀ t ∈ L, wx.heap[t.1]? = some (.cells t.2.1.toArray t.2.2 (0, 0)) ∧ t.2.2 ≠ 5
section
variable {w wx wy : World} {L : List (Nat × List Value × TypeId)} {ys X : List UInt8} {A A9 : Option Addr} {n c m c9 : Nat}
theorem BySt.call (h : BySt w L ys A n c wx) (hb : Below wx.heap.size wx wy) : BySt w L ys A n c wy :=
  ⟨h.bel.trans (hb.mono h.bel.size), (But.of_below (X := NoB) hb).own h.own (fun _ _ q => q), h.len, fun t ht => ⟨(hb.block t.1 (qX (h.boxes t ht).1)).trans (h.boxes t ht).1, (h.boxes t ht).2⟩⟩
theorem BySt.app' (h : BySt w L ys A n c wx) (ho : wy.ownsRow w.heap.size 5 1 (.slice A9 (n + m) c9) (n + m) (idV ys ++ idV X)) (hX : X.length = m) (hB : Below w.heap.size w wy) (hg : ∀ k, k < wx.heap.size → (Value.slice A n c).ownBlock ≠ some k → wy.heap[k]? = wx.heap[k]?) : BySt w L (ys ++ X) A9 (n + m) c9 wy :=
  ⟨hB, by rw [idV_app]; exact ho, by rw [List.length_append, h.len, hX], fun t ht => by
    obtain ⟨h1, h2⟩ := h.boxes t ht
    exact ⟨(hg t.1 (qX h1) (own_not h.own h1 (fun e => h2 e.symm))).trans h1, h2⟩⟩
theorem BySt.app (h : BySt w L ys A n c wx) (ho : wy.ownsRow w.heap.size 5 1 (.slice A9 (n + m) c9) (n + m) (idV ys ++ idV X)) (hX : X.length = m) (hg : wx.grownBy wy (Value.slice A n c).ownBlock) : BySt w L (ys ++ X) A9 (n + m) c9 wy :=
  h.app' ho hX (h.bel.grown hg h.bel.size fun k e => (h.own.lt k e).1) fun k hk hne => hg.block k hk (fun e => hne e.symm)
theorem BySt.cellAt (h : BySt w L ys A n c wx) {z : Nat} {cs : List Value} {T : TypeId} (ht : (z, cs, T) ∈ L) (j : Nat) : wx.cell? ⟨z, j, none⟩ = cs[j]? := cells_at0 (h.boxes _ ht).1 j
theorem BySt.add (h : BySt w L ys A n c wx) {z : Nat} {cs : List Value} {T : TypeId} (hz : wx.heap[z]? = some (.cells cs.toArray T (0, 0))) (hT : T ≠ 5) : BySt w ((z, cs, T) :: L) ys A n c wx :=
  ⟨h.bel, h.own, h.len, fun t ht => by
    rcases List.mem_cons.1 ht with rfl | ht
    · exact ⟨hz, hT⟩
    · exact h.boxes t ht⟩
end
theorem idsE_len8 {l : List (List UInt8)} (ho : IdsOk l) (h : l.length ≤ 1099511627776) : (idsE l).length ≤ 10 + l.length * 32 := by
  unfold idsE
  rw [numE_nat, List.length_append, flat_len8 ho]
  have := numB_len10 (n := l.length) (by omega)
  omega
theorem textB_len8 {s : ByteArray} (h : s.size ≤ 1099511627776) : (textB (L s)).length ≤ 10 + s.size := by
  unfold textB
  rw [List.length_append, L_length]
  have := numB_len10 (n := s.size) (by omega)
  omega
theorem own_lit8 (w0 w : World) (v : Value) (hb : w0.heap.size ≤ w.heap.size) : (w.alloc (.cells [v].toArray 5)).ownsRow w0.heap.size 5 1 (.slice (some ⟨w.heap.size, 0, none⟩) 1 1) 1 [v] :=
  ⟨rfl, .inr ⟨w.heap.size, 1, #[v], rfl, hb, heap_alloc_new _ _, qR _, by decide, by simp, by simp⟩⟩
theorem refE_len8 {deps : List (List UInt8)} {rc : List UInt8} {ri : Nat} (hd : deps.length ≤ 1099511627776) (hr : ri < 9223372036854775808) : (refE deps (rc, ((ri : Nat) : Int))).length ≤ 20 := by
  have h2 := numB_len10 (n := ri) (by omega)
  have h3 : deps.idxOf rc ≤ deps.length := List.idxOf_le_length
  unfold refE
  simp only
  split
  · rw [show ((deps.idxOf rc : Int) + 1) = ((deps.idxOf rc + 1 : Nat) : Int) by omega, numE_nat, numE_nat, List.length_append]
    have h1 := numB_len10 (n := deps.idxOf rc + 1) (by omega)
    omega
  · rw [show numE 0 = numB 0 from numE_nat 0, numE_nat, List.length_append]
    have h1 := numB_len10 (n := 0) (by omega)
    omega
set_option maxHeartbeats 4000000 in
set_option maxRecDepth 100000 in
theorem refBytesCm_any (k : UInt8) (n : Int) (ds : List (List UInt8)) (au : ByteArray) (os : List OpD) (ps cs : List (List UInt8)) (a2 ms : ByteArray) (st : Int) (v : Value) (w : World) (h : ObjIn w w.heap.size v (k, (n, ds, au, os), (ps, cs, a2, ms, st))) (hk : k = 2) (hr : commitB (ps, cs, a2, ms, st) = true) :
    Calls Tryz.prog 162 #[v] w (NumGives (commitE (ps, cs, a2, ms, st)) w) := by
  obtain ⟨ok, hop, ha, hh2, hm, Ad, cd, Ao, co, Ap, cp, Ac, cc, rfl, sd, so, sp, sc⟩ := h
  dsimp only at *
  have HSP := Lib.hid sp; have HSC := Lib.hid sc; have HIP := Lib.hid ok.2.1; have HIC := Lib.hid ok.2.2.1
  simp only [commitB, idsB, Bool.and_eq_true, decide_eq_true_eq] at hr
  obtain ⟨⟨⟨⟨⟨⟨⟨g1, _⟩, _⟩, ⟨⟨g2, _⟩, _⟩⟩, g3⟩, g4⟩, g5⟩, g6⟩ := hr
  have hau := authorB_size g3
  have hno := noteB_size g4
  obtain ⟨sn, rfl⟩ : ∃ sn : Nat, st = (sn : Int) := ⟨st.toNat, by omega⟩
  have hlp : ps.length ≤ 1099511627776 := by omega
  have hlc : cs.length ≤ 1099511627776 := by omega
  have ha2 : a2.size ≤ 1099511627776 := by omega
  have hms : ms.size ≤ 1099511627776 := by omega
  have hst : sn < 9223372036854775808 := by omega
  have b1 := idsE_len8 ok.2.1 hlp
  have b2 := idsE_len8 ok.2.2.1 hlc
  have b3 := textB_len8 ha2
  have b4 := textB_len8 hms
  have b5 := numB_len10 (n := sn) (by omega)
  have HE := Lib.hid (show commitE (ps, cs, a2, ms, (sn : Int)) = [75] ++ idsE ps ++ idsE cs ++ textB (L a2) ++ textB (L ms) ++ numB sn by unfold commitE; simp only [numE_nat]; simp)
  have ek : ((k.toNat : Int) == 2) = true := by rw [hk]; rfl
  clear ok hop ha hh2 hm sd so sp sc g3 g4 hk
  go_enter Tryz.func162, Tryz.ntmps162
  go_upto_region 1 with (first
    | (with_reducible refine at_box ?_
       refine wp_boxM (by rfl) 70 _ rfl [.int .u8 (k.toNat : Int), .int .i64 n, .slice Ad ds.length cd, .string au, .slice Ao os.length co, .slice Ap ps.length cp, .slice Ac cs.length cc, .string a2, .string ms, .int .i64 (sn : Int)] _ rfl rfl (by kernel_rfl) ?_
       intro W0 hb0 hz0 hs0
       have HB0 := Lib.hid hb0; have HZ0 := Lib.hid hz0
       clear hb0 hz0 hs0))
  obtain ⟨z, hz⟩ : ∃ z, w.heap.size = z := ⟨_, rfl⟩
  rw [hz] at HZ0 ⊢
  have c0 : W0.cell? ⟨z, 0, none⟩ = some (.int .u8 (k.toNat : Int)) := cells_at0 HZ0.out 0
  try simp only [Act.put, List.setIfInBounds_toArray, List.set_cons_zero, List.set_cons_succ]
  go_upto_region 3 with (first
    | (with_reducible refine at_load ?_
       refine wp_val (by rfl) (ex_load 68 _ rfl (p := ⟨z, 5, none⟩) rfl (qV _ _ _ _ [.slice Ap ps.length cp, .slice Ac cs.length cc, .string a2, .string ms, .int .i64 (sn : Int)] _ (fun j u hj => (cells_at0 HZ0.out (5 + j)).trans (mid5 hj)) Tryz.underlying68 rfl (by kernel_rfl))) ?_)
    | (with_reducible refine at_alloc ?_
       refine wp_allocM (by rfl) 68 rfl [.slice none 0 0, .slice none 0 0, .string noneS, .string noneS, .int .i64 0] (zeroCm_run _) ?_
       intro Wa hba hya hsa
       have HBa := Lib.hid hba; have HYa := Lib.hid hya
       clear hba hya hsa)
    | (with_reducible refine at_store ?_
       refine wp_storeM (by rfl) 68 _ _ rfl W0.heap.size 0 [] [.slice none 0 0, .slice none 0 0, .string noneS, .string noneS, .int .i64 0] [] [.slice Ap ps.length cp, .slice Ac cs.length cc, .string a2, .string ms, .int .i64 (sn : Int)] 68 _ rfl rfl rfl rfl (by simpa using HYa.out) rfl (by kernel_rfl) (by intro u hu; simp only [List.mem_cons, List.not_mem_nil, or_false] at hu; rcases hu with rfl | rfl | rfl | rfl | rfl <;> rfl) ?_
       intro W2 hbb hyb hsb
       have HB1 := Lib.hid (HBa.out.trans (hbb.below HBa.out.size (fun k hk e => by have e' : k = W0.heap.size := e; omega)))
       have HZ2 : Hid (W2.heap[W0.heap.size]? = some (.cells ([.slice Ap ps.length cp, .slice Ac cs.length cc, .string a2, .string ms, .int .i64 (sn : Int)] : List Value).toArray 68 (0, 0))) := Lib.hid (by simpa using hyb)
       clear hbb hyb hsb))
  have HB2 := Lib.hid (HB0.out.trans (HB1.out.mono HB0.out.size))
  obtain ⟨z2, hz2⟩ : ∃ z, W0.heap.size = z := ⟨_, rfl⟩
  rw [hz2] at HZ2 ⊢
  try simp only [Act.put, List.setIfInBounds_toArray, List.set_cons_zero, List.set_cons_succ]
  clear hz2 HBa HYa HB1
  go_upto_region 4 with (first
    | (with_reducible refine at_load ?_
       obtain ⟨wb, hwb⟩ : ∃ u, (World.alloc W2 (.cells #[.int .u8 75] 5)) = u := ⟨_, rfl⟩
       have HS : Hid (BySt w [(z2, [.slice Ap ps.length cp, .slice Ac cs.length cc, .string a2, .string ms, .int .i64 (sn : Int)], 68)] [75] (some ⟨W2.heap.size, 0, none⟩) 1 1 wb) := Lib.hid (by
         have hba : Below W2.heap.size W2 wb := by rw [← hwb]; exact (qB _ _).alloc (qR _) _
         exact ⟨HB2.out.trans (hba.mono HB2.out.size), by rw [← hwb]; exact own_lit8 w W2 _ HB2.out.size, rfl, fun t ht => by
           obtain rfl := List.mem_singleton.1 ht
           exact ⟨(hba.block z2 (qX HZ2.out)).trans HZ2.out, (show (68 : TypeId) ≠ 5 by decide)⟩⟩)
       rw [hwb]
       clear hwb
       refine wp_val (by rfl) (ex_load1 34 _ rfl (p := ⟨z2, 0, none⟩) rfl Tryz.underlying34 rfl (HS.out.cellAt (z := z2) (cs := [.slice Ap ps.length cp, .slice Ac cs.length cc, .string a2, .string ms, .int .i64 (sn : Int)]) (T := 68) (by simp) 0)) ?_)
    | (go_at_call 202; refine (refList_any ps Ap cp _ hlp HIP.out ((HSP.out.keep HS.out.bel).more HS.out.bel.size)).mono ?_; rintro e u1 ⟨hb1, Ax1, cx1, rfl, ho1⟩
       have HS := Lib.hid (HS.out.call hb1)
       have HBU := Lib.hid (hb1)
       have HX1 := Lib.hid (Sl.of_own ho1)
       clear hb1 ho1)
    | (at_builtin; refine wp_appL8 (by rfl) _ _ 169 rfl w.heap.size 5 (.int .u8 0) 1 1 Tryz.underlying169 info_u8 rfl (by decide) (.slice (some ⟨W2.heap.size, 0, none⟩) (1) 1) (1) (idV ([75])) rfl HS.out.own Ax1 (idsE ps).length cx1 u1.heap.size (idV (idsE ps)) rfl HX1.out (idV_one _) (by have hl1 := b1; have hl2 := b2; have hl3 := b3; have hl4 := b4; have hl5 := b5; unfold maxLen; omega) (by have hl1 := b1; have hl2 := b2; have hl3 := b3; have hl4 := b4; have hl5 := b5; omega) HS.out.bel.size ?_
       intro v1 w1x ho9 hg9
       obtain ⟨A1, c1, rfl⟩ := own_form' ho9
       have HS := Lib.hid (HS.out.app ho9 rfl hg9)
       clear ho9 hg9))
  go_upto_region 5 with (first
    | (with_reducible refine at_load ?_
       refine wp_val (by rfl) (ex_load1 34 _ rfl (p := ⟨z2, 1, none⟩) rfl Tryz.underlying34 rfl (HS.out.cellAt (z := z2) (cs := [.slice Ap ps.length cp, .slice Ac cs.length cc, .string a2, .string ms, .int .i64 (sn : Int)]) (T := 68) (by simp) 1)) ?_)
    | (go_at_call 202; refine (refList_any cs Ac cc _ hlc HIC.out ((HSC.out.keep HS.out.bel).more HS.out.bel.size)).mono ?_; rintro e u2 ⟨hb2, Ax2, cx2, rfl, ho2⟩
       have HS := Lib.hid (HS.out.call hb2)
       have HBU := Lib.hid (hb2)
       have HX2 := Lib.hid (Sl.of_own ho2)
       clear hb2 ho2)
    | (at_builtin; refine wp_appL8 (by rfl) _ _ 169 rfl w.heap.size 5 (.int .u8 0) 1 1 Tryz.underlying169 info_u8 rfl (by decide) (.slice A1 (1 + (idsE ps).length) c1) (1 + (idsE ps).length) (idV ([75] ++ idsE ps)) rfl HS.out.own Ax2 (idsE cs).length cx2 u2.heap.size (idV (idsE cs)) rfl HX2.out (idV_one _) (by have hl1 := b1; have hl2 := b2; have hl3 := b3; have hl4 := b4; have hl5 := b5; unfold maxLen; omega) (by have hl1 := b1; have hl2 := b2; have hl3 := b3; have hl4 := b4; have hl5 := b5; omega) HS.out.bel.size ?_
       intro v2 w2x ho9 hg9
       obtain ⟨A2, c2, rfl⟩ := own_form' ho9
       have HS := Lib.hid (HS.out.app ho9 rfl hg9)
       clear ho9 hg9))
  go_upto_region 6 with (first
    | (with_reducible refine at_load ?_
       refine wp_val (by rfl) (ex_load1 9 _ rfl (p := ⟨z2, 2, none⟩) rfl Tryz.underlying9 rfl (HS.out.cellAt (z := z2) (cs := [.slice Ap ps.length cp, .slice Ac cs.length cc, .string a2, .string ms, .int .i64 (sn : Int)]) (T := 68) (by simp) 2)) ?_)
    | (go_at_call 203; refine (refText_any a2 ha2 _).mono ?_; rintro e u3 ⟨hb3, Ax3, cx3, rfl, ho3⟩
       have HS := Lib.hid (HS.out.call hb3)
       have HBU := Lib.hid (hb3)
       have HX3 := Lib.hid (Sl.of_own ho3)
       clear hb3 ho3)
    | (at_builtin; refine wp_appL8 (by rfl) _ _ 169 rfl w.heap.size 5 (.int .u8 0) 1 1 Tryz.underlying169 info_u8 rfl (by decide) (.slice A2 (1 + (idsE ps).length + (idsE cs).length) c2) (1 + (idsE ps).length + (idsE cs).length) (idV ([75] ++ idsE ps ++ idsE cs)) rfl HS.out.own Ax3 (textB (L a2)).length cx3 u3.heap.size (idV (textB (L a2))) rfl HX3.out (idV_one _) (by have hl1 := b1; have hl2 := b2; have hl3 := b3; have hl4 := b4; have hl5 := b5; unfold maxLen; omega) (by have hl1 := b1; have hl2 := b2; have hl3 := b3; have hl4 := b4; have hl5 := b5; omega) HS.out.bel.size ?_
       intro v3 w3x ho9 hg9
       obtain ⟨A3, c3, rfl⟩ := own_form' ho9
       have HS := Lib.hid (HS.out.app ho9 rfl hg9)
       clear ho9 hg9))
  go_upto_region 7 with (first
    | (with_reducible refine at_load ?_
       refine wp_val (by rfl) (ex_load1 9 _ rfl (p := ⟨z2, 3, none⟩) rfl Tryz.underlying9 rfl (HS.out.cellAt (z := z2) (cs := [.slice Ap ps.length cp, .slice Ac cs.length cc, .string a2, .string ms, .int .i64 (sn : Int)]) (T := 68) (by simp) 3)) ?_)
    | (go_at_call 203; refine (refText_any ms hms _).mono ?_; rintro e u4 ⟨hb4, Ax4, cx4, rfl, ho4⟩
       have HS := Lib.hid (HS.out.call hb4)
       have HBU := Lib.hid (hb4)
       have HX4 := Lib.hid (Sl.of_own ho4)
       clear hb4 ho4)
    | (at_builtin; refine wp_appL8 (by rfl) _ _ 169 rfl w.heap.size 5 (.int .u8 0) 1 1 Tryz.underlying169 info_u8 rfl (by decide) (.slice A3 (1 + (idsE ps).length + (idsE cs).length + (textB (L a2)).length) c3) (1 + (idsE ps).length + (idsE cs).length + (textB (L a2)).length) (idV ([75] ++ idsE ps ++ idsE cs ++ textB (L a2))) rfl HS.out.own Ax4 (textB (L ms)).length cx4 u4.heap.size (idV (textB (L ms))) rfl HX4.out (idV_one _) (by have hl1 := b1; have hl2 := b2; have hl3 := b3; have hl4 := b4; have hl5 := b5; unfold maxLen; omega) (by have hl1 := b1; have hl2 := b2; have hl3 := b3; have hl4 := b4; have hl5 := b5; omega) HS.out.bel.size ?_
       intro v4 w4x ho9 hg9
       obtain ⟨A4, c4, rfl⟩ := own_form' ho9
       have HS := Lib.hid (HS.out.app ho9 rfl hg9)
       clear ho9 hg9))
  go_wp2_with (first
    | (with_reducible refine at_load ?_
       refine wp_val (by rfl) (ex_load1 3 _ rfl (p := ⟨z2, 4, none⟩) rfl Tryz.underlying3 rfl (HS.out.cellAt (z := z2) (cs := [.slice Ap ps.length cp, .slice Ac cs.length cc, .string a2, .string ms, .int .i64 (sn : Int)]) (T := 68) (by simp) 4)) ?_)
    | (go_at_call 204; refine (refNumber_any sn hst _).mono ?_; rintro e u5 ⟨hb5, Ax5, cx5, rfl, ho5⟩
       have HS := Lib.hid (HS.out.call hb5)
       have HBU := Lib.hid (hb5)
       have HX5 := Lib.hid (Sl.of_own ho5)
       clear hb5 ho5)
    | (at_builtin; refine wp_appL8 (by rfl) _ _ 169 rfl w.heap.size 5 (.int .u8 0) 1 1 Tryz.underlying169 info_u8 rfl (by decide) (.slice A4 (1 + (idsE ps).length + (idsE cs).length + (textB (L a2)).length + (textB (L ms)).length) c4) (1 + (idsE ps).length + (idsE cs).length + (textB (L a2)).length + (textB (L ms)).length) (idV ([75] ++ idsE ps ++ idsE cs ++ textB (L a2) ++ textB (L ms))) rfl HS.out.own Ax5 (numB sn).length cx5 u5.heap.size (idV (numB sn)) rfl HX5.out (idV_one _) (by have hl1 := b1; have hl2 := b2; have hl3 := b3; have hl4 := b4; have hl5 := b5; unfold maxLen; omega) (by have hl1 := b1; have hl2 := b2; have hl3 := b3; have hl4 := b4; have hl5 := b5; omega) HS.out.bel.size ?_
       intro v5 w5x ho9 hg9
       obtain ⟨A5, c5, rfl⟩ := own_form' ho9
       have HS := Lib.hid (HS.out.app ho9 rfl hg9)
       clear ho9 hg9))
  go_wp2_with fail
  go_ret
  have hlen := HS.out.len
  exact ⟨HS.out.bel, A5, c5, by rw [HE.out, hlen]; rfl, by rw [HE.out, hlen]; exact HS.out.own⟩
end Go.Proofs.YtdgbjhfkmembdaaGreatDoor
