/-
  Pieces as they lie in memory; does a key follow the last one? Conditions: the pieces lie in memory, their keys well formed, indexes small.
-/
import Derived.Test.YtdgbjhfkmembdaaGreatDoorBlockHold
import Derived.Test.YtdgbjhfkmembdaaGreatDoorPieceSpec
import Derived.Test.YtdgbjhfkmembdaaGreatDoorBlockInsert
namespace Go.Proofs.YtdgbjhfkmembdaaGreatDoor
open Go.RowKit Go.Maps
set_option linter.unusedVariables false
set_option linter.unusedSimpArgs false

def pieceV (p : PieceD) : List Value := keyV p.1 ++ ([.int .i64 (p.2.1 : Int)] ++ [.string ⟨p.2.2.toArray⟩])
def PieceOk (p : PieceD) : Prop := KeyOk p.1 ∧ 0 ≤ p.1.2.2 ∧ p.1.2.2 + (p.2.1 : Int) ≤ 2147483648
theorem pieceV_length {p : PieceD} (h : PieceOk p) : (pieceV p).length = 36 := by simp [pieceV, keyV_length h.1]
theorem pieceV_one (p : PieceD) : ∀ u ∈ pieceV p, u.oneCell' = true := by
  intro u hu
  unfold pieceV at hu
  simp only [List.mem_append, List.mem_singleton] at hu
  rcases hu with hu | rfl | rfl
  · exact keyV_one _ u hu
  · rfl
  · rfl
theorem sizePiece : (Tryz.prog.info? 102).map (·.size) = some 36 := by kernel_rfl
/-- The pieces gathered: the variable's block, their rows. -/
def PcAt (w : World) (B b : Nat) (l : List PieceD) : Prop := ∃ v, w.heap[b]? = some (.cells [v].toArray 99 (0, 0)) ∧ w.ownsRow B 102 36 v l.length (rowsV pieceV l)
theorem PcAt.keep {w w' : World} {B b : Nat} {l : List PieceD} (h : PcAt w B b l) (hb : Below w.heap.size w w') : PcAt w' B b l := by
  obtain ⟨v, h1, h2⟩ := h
  exact ⟨v, (hb.block b (qX h1)).trans h1, (But.of_below (X := NoB) hb).own h2 fun _ _ q => q⟩
theorem rowsV_snocP {α : Type} (enc : α → List Value) (l : List α) (x : α) : rowsV enc (l ++ [x]) = rowsV enc l ++ enc x := by simp [rowsV]
/-- The last row. -/
theorem piece_last {w : World} {B : Nat} {l : List PieceD} {q : PieceD} {v : Value} (h : w.ownsRow B 102 36 v (l ++ [q]).length (rowsV pieceV (l ++ [q]))) (hl : ∀ x ∈ l ++ [q], PieceOk x) :
    ∃ g c tail, v = .slice (some ⟨g, 0, none⟩) (l.length + 1) c ∧ B ≤ g ∧ w.heap[g]? = some (.cells (rowsV pieceV l ++ (keyV q.1 ++ ([Value.int .i64 (q.2.1 : Int)] ++ ([Value.string ⟨q.2.2.toArray⟩] ++ tail)))).toArray 102 (0, 0)) ∧ l.length + 1 ≤ c ∧ c ≤ maxLen ∧ tail.length = (c - (l.length + 1)) * 36 ∧ (rowsV pieceV l).length = l.length * 36 ∧ (keyV q.1).length = 34 := by
  obtain ⟨g, c, tail, hv, hB, hg, hc, hm, ht⟩ := own_open h (by simp)
  rw [List.length_append, List.length_singleton] at hv hc ht
  refine ⟨g, c, tail, hv, hB, ?_, hc, hm, ht, rowsV_length fun x hx => pieceV_length (hl x (List.mem_append_left _ hx)), keyV_length (hl q (by simp)).1⟩
  rw [hg, rowsV_snocP]
  simp [pieceV]
theorem ex_subI {P : Program} {ρ : Operand → Value} {o : Oper} {w : World} (x y : Operand) (t' : TypeId) (ho : o.op = .binOp .sub 3 x y t') {m n r : Int} (hx : ρ x = .int .i64 m) (hy : ρ y = .int .i64 n) (hr : IntKind.i64.wrap (m - n) = r) : (execOp ρ o).run P w = .ok (.value (.int .i64 r)) w := by
  subst hr
  unfold execOp
  simp only [ho, hx, hy]
  rfl
set_option maxHeartbeats 4000000 in
set_option maxRecDepth 100000 in
theorem follows_any (l : List PieceD) (k : KeyD) (B b : Nat) (w : World) (h : PcAt w B b l) (hk : KeyOk k) (hl : ∀ x ∈ l, PieceOk x) (hn : l.length ≤ 1099511627776) :
    Calls Tryz.prog 88 #[.agg (keyV k).toArray, .pointer (some ⟨b, 0, none⟩)] w fun e w' => Below w.heap.size w w' ∧ e = .returned (.bool (followsB l k)) := by
  obtain ⟨v, hbx, ho⟩ := h
  have HBX := Lib.hid hbx; have HO := Lib.hid ho; have HK := Lib.hid hk; have HL := Lib.hid hl
  have hkl := keyV_length hk
  clear hbx ho hk hl
  rcases List.eq_nil_or_concat l with rfl | ⟨l, q, rfl⟩
  · have hv : ∃ A c, v = .slice A 0 c := own_form HO.out
    obtain ⟨A, c, rfl⟩ := hv
    go_enter Tryz.func88, Tryz.ntmps88
    go_upto_region 1 with (first
      | (with_reducible refine at_box ?_
         refine wp_boxM (by rfl) 89 _ rfl (keyV k) _ rfl rfl (by rw [hkl]; kernel_rfl) ?_
         intro W0 hb0 hy0 hs0
         have HB0 := Lib.hid hb0
         clear hb0 hy0 hs0))
    have HX := Lib.hid (show ∀ u : World, Below W0.heap.size W0 u → u.cell? ⟨b, 0, none⟩ = some (.slice A 0 c) from fun u hu => (hu.cell (p := ⟨b, 0, none⟩) (qL (qX HBX.out) HB0.out.size)).trans ((HB0.out.cell (p := ⟨b, 0, none⟩) (qX HBX.out)).trans (cells_at0 HBX.out 0)))
    refine rN 23 (fun u => Below W0.heap.size W0 u) (qD _ _) fun hF0 => ?_
    refine tl 0 (.slice A 0 c) rfl hF0 (fun w' hw' => l1 Tryz.underlying99 (HX.out w' hw')) ?_
    go_frame
    refine tk 1 (.int .i64 0) rfl (fun w' hw' => ex_len 99 _ rfl rfl Tryz.underlying99) ?_
    go_frame
    refine tk 2 (.bool false) rfl (fun w' hw' => ex_gtrB _ _ _ rfl rfl rfl (by decide)) ?_
    go_frame
    refine tw 3 (.bool false) ?_
    go_frame
    refine tn 4 ?_
    go_frame
    refine tn 5 ?_
    go_frame
    refine tn 6 ?_
    go_frame
    refine tn 7 ?_
    go_frame
    refine tn 8 ?_
    go_frame
    refine tn 9 ?_
    go_frame
    refine tn 10 ?_
    go_frame
    refine tn 11 ?_
    go_frame
    refine tn 12 ?_
    go_frame
    refine tn 13 ?_
    go_frame
    refine tn 14 ?_
    go_frame
    refine tn 15 ?_
    go_frame
    refine tn 16 ?_
    go_frame
    refine tn 17 ?_
    go_frame
    refine tn 18 ?_
    go_frame
    refine tn 19 ?_
    go_frame
    refine tn 20 ?_
    go_frame
    refine tw 21 (.bool false) ?_
    go_frame
    refine tw 22 (.bool false) ?_
    go_frame
    refine wpAnyN_done (by kernel_rfl) ?_ _
    go_wp2_with fail
    go_ret
    exact ⟨HB0.out.trans ((qD W0.heap.size W0).mono HB0.out.size), rfl⟩
  · rw [List.concat_eq_append] at HO HL hn ⊢
    obtain ⟨g, c, tail, rfl, hB, hg, hc, hm, ht, hrl, hql⟩ := piece_last HO.out HL.out
    have HG := Lib.hid hg
    have HQ := Lib.hid (HL.out q (by simp))
    have hq1 := HQ.out.2.1
    have hq2 := HQ.out.2.2
    rw [List.length_append, List.length_singleton] at hn
    have HE : Hid (followsB (l ++ [q]) k = decide (laterD q.1 (q.2.1 : Int) = k)) := Lib.hid (by unfold followsB; rw [List.getLast?_concat])
    have HKL : Hid (KeyOk (laterD q.1 (q.2.1 : Int))) := Lib.hid (laterD_ok HQ.out.1 hq1 hq2)
    have HLA := Lib.hid (fun w => later_any q.1 (q.2.1 : Int) w HQ.out.1 (by unfold Ix; omega) (by unfold Ix; omega))
    have hE1 := enE Tryz.func89 rfl
    have ew : IntKind.i64.wrap (((l.length + 1 : Nat) : Int) - 1) = (l.length : Int) := by rw [IntWalk.i64_in _ (by omega)]; omega
    clear hg ht hB
    go_enter Tryz.func88, Tryz.ntmps88
    go_upto_region 1 with (first
      | (with_reducible refine at_box ?_
         refine wp_boxM (by rfl) 89 _ rfl (keyV k) _ rfl rfl (by rw [hkl]; kernel_rfl) ?_
         intro W0 hb0 hy0 hs0
         have HB0 := Lib.hid hb0; have HY0 := Lib.hid hy0
         clear hb0 hy0 hs0))
    obtain ⟨b2, hb2⟩ : ∃ x, w.heap.size = x := ⟨_, rfl⟩
    rw [hb2] at HY0 ⊢
    have HX := Lib.hid (show ∀ u : World, Below W0.heap.size W0 u → u.cell? ⟨b, 0, none⟩ = some (.slice (some ⟨g, 0, none⟩) (l.length + 1) c) from fun u hu => (hu.cell (p := ⟨b, 0, none⟩) (qL (qX HBX.out) HB0.out.size)).trans ((HB0.out.cell (p := ⟨b, 0, none⟩) (qX HBX.out)).trans (cells_at0 HBX.out 0)))
    have HGU := Lib.hid (show ∀ u : World, Below W0.heap.size W0 u → u.rangeAt g (0 + l.length * 36 + 0) (keyV q.1) ∧ u.cell? ⟨g, 0 + l.length * 36 + 34, none⟩ = some (.int .i64 (q.2.1 : Int)) from fun u hu => by
      have h2 := (hu.block g (qL (qX HG.out) HB0.out.size)).trans ((HB0.out.block g (qX HG.out)).trans HG.out)
      refine ⟨fun j x hj => (cells_at0 h2 _).trans ?_, (cells_at0 h2 _).trans ?_⟩
      · rw [List.getElem?_append_right (by omega), List.getElem?_append_left (by have := (List.getElem?_eq_some_iff.1 hj).1; omega)]
        rw [← hj]
        congr 1
        omega
      · rw [List.getElem?_append_right (by omega), List.getElem?_append_right (by omega)]
        rw [show 0 + l.length * 36 + 34 - (rowsV pieceV l).length - (keyV q.1).length = 0 by omega]
        rfl)
    have HYU := Lib.hid (show ∀ u : World, Below W0.heap.size W0 u → u.rangeAt b2 0 (keyV k) from fun u hu j x hj => by rw [qZ]; exact (cells_at0 ((hu.block b2 (qX HY0.out)).trans HY0.out) j).trans hj)
    refine rN 23 (fun u => Below W0.heap.size W0 u) (qD _ _) fun hF0 => ?_
    refine tl 0 (.slice (some ⟨g, 0, none⟩) (l.length + 1) c) rfl hF0 (fun w' hw' => l1 Tryz.underlying99 (HX.out w' hw')) ?_
    go_frame
    refine tk 1 (.int .i64 ((l.length + 1 : Nat) : Int)) rfl (fun w' hw' => ex_len 99 _ rfl rfl Tryz.underlying99) ?_
    go_frame
    refine tk 2 (.bool true) rfl (fun w' hw' => ex_gtrB _ _ _ rfl rfl rfl (dT (by omega))) ?_
    go_frame
    refine tw 3 (.bool true) ?_
    go_frame
    refine tl 4 (.slice (some ⟨g, 0, none⟩) (l.length + 1) c) rfl hF0 (fun w' hw' => l1 Tryz.underlying99 (HX.out w' hw')) ?_
    go_frame
    refine tl 5 (.slice (some ⟨g, 0, none⟩) (l.length + 1) c) rfl hF0 (fun w' hw' => l1 Tryz.underlying99 (HX.out w' hw')) ?_
    go_frame
    refine tk 6 (.int .i64 ((l.length + 1 : Nat) : Int)) rfl (fun w' hw' => ex_len 99 _ rfl rfl Tryz.underlying99) ?_
    go_frame
    refine tk 7 (.int .i64 (l.length : Int)) rfl (fun w' hw' => ex_subI _ _ _ rfl rfl rfl ew) ?_
    go_frame
    refine tk 8 (.pointer (some ⟨g, 0 + l.length * 36, none⟩)) rfl (fun w' hw' => ex_indexG 99 _ _ rfl (b := g) (off := 0) (q := l.length) (n := l.length + 1) (c := c) rfl rfl (by omega) Tryz.underlying99 sizePiece) ?_
    go_frame
    refine tw 9 (.pointer (some ⟨g, 0 + l.length * 36 + 0, none⟩)) ?_
    go_frame
    refine tl 10 (.agg (keyV q.1).toArray) rfl hF0 (fun w' hw' => ldK HQ.out.1 (HGU.out w' hw').1) ?_
    go_frame
    refine tl 11 (.slice (some ⟨g, 0, none⟩) (l.length + 1) c) rfl hF0 (fun w' hw' => l1 Tryz.underlying99 (HX.out w' hw')) ?_
    go_frame
    refine tl 12 (.slice (some ⟨g, 0, none⟩) (l.length + 1) c) rfl hF0 (fun w' hw' => l1 Tryz.underlying99 (HX.out w' hw')) ?_
    go_frame
    refine tk 13 (.int .i64 ((l.length + 1 : Nat) : Int)) rfl (fun w' hw' => ex_len 99 _ rfl rfl Tryz.underlying99) ?_
    go_frame
    refine tk 14 (.int .i64 (l.length : Int)) rfl (fun w' hw' => ex_subI _ _ _ rfl rfl rfl ew) ?_
    go_frame
    refine tk 15 (.pointer (some ⟨g, 0 + l.length * 36, none⟩)) rfl (fun w' hw' => ex_indexG 99 _ _ rfl (b := g) (off := 0) (q := l.length) (n := l.length + 1) (c := c) rfl rfl (by omega) Tryz.underlying99 sizePiece) ?_
    go_frame
    refine tw 16 (.pointer (some ⟨g, 0 + l.length * 36 + 34, none⟩)) ?_
    go_frame
    refine tl 17 (.int .i64 (q.2.1 : Int)) rfl hF0 (fun w' hw' => l1 Tryz.underlying3 (HGU.out w' hw').2) ?_
    go_frame
    refine tl 19 (.agg (keyV k).toArray) rfl hF0 (fun w' hw' => ldK HK.out (HYU.out w' hw')) ?_
    go_frame
    refine ta 18 ?_
    refine tc #[.agg (keyV q.1).toArray, .int .i64 (q.2.1 : Int)] hE1 rfl ?_
    refine (HLA.out _).mono ?_
    rintro e u3 ⟨hb3, rfl⟩
    have HB3 := Lib.hid ((qD W0.heap.size W0).trans (hb3.mono (qD W0.heap.size W0).size))
    clear hb3
    refine ⟨_, rfl, fun _ _ => HB3.out, ?_⟩
    go_frame
    refine tk 20 (.bool (decide (laterD q.1 (q.2.1 : Int) = k))) rfl (fun w' hw' => ex_eql 89 _ _ _ rfl rfl rfl eqKey.noGuard (run_eqKey HKL.out HK.out _)) ?_
    go_frame
    refine tw 21 (.bool (decide (laterD q.1 (q.2.1 : Int) = k))) ?_
    go_frame
    refine tw 22 (.bool (decide (laterD q.1 (q.2.1 : Int) = k))) ?_
    go_frame
    refine wpAnyN_done (by kernel_rfl) ?_ _
    go_wp2_with fail
    go_ret
    exact ⟨HB0.out.trans (HB3.out.mono HB0.out.size), by rw [HE.out]; rfl⟩
end Go.Proofs.YtdgbjhfkmembdaaGreatDoor
