/-
  What the search's cost gives: the whole's cost; and which lists it keeps. Conditions: rows of at most 100000 numbers, kept where the search's box says.
-/
import Derived.Test.YtfjmbcljohobeaaDoorMyersNext0
import Derived.Test.YtfjmbcljohobeaaDoorKeys23
namespace Go.Proofs.YtfjmbcljohobeaaDoor
open Go.RowKit Go.Maps Go.Shelf
set_option linter.unusedVariables false
set_option linter.unusedSimpArgs false

theorem Sl.grown {w w' : World} {A : Option Addr} {n M : Nat} {xs : List Value} (h : Sl w w.heap.size A n 1 xs) (hM : ∃ es c, w.heap[M]? = some (.map es c)) (hg : w.grownBy w' (some M)) : Sl w' w'.heap.size A n 1 xs := by
  refine ⟨h.1, fun hn => ?_⟩
  obtain ⟨b, off, e, hb, hc⟩ := h.2 hn
  have hx : 0 < xs.length := by have := h.1; omega
  have hbM : b ≠ M := by
    rintro rfl
    obtain ⟨es, c, hm⟩ := hM
    have h0 := hc 0 xs[0] (by simp [hx])
    simp [World.cell?, hm] at h0
  have hbk : w'.heap[b]? = w.heap[b]? := hg.block b hb fun q => hbM (Option.some.inj q)
  refine ⟨b, off, e, Nat.lt_of_lt_of_le hb hg.size, fun j u hj => ?_⟩
  have h1 := hc j u hj
  unfold World.cell? at h1 ⊢
  rw [hbk]
  exact h1
theorem next0_any' (a b : List Int) (B : Nat) (A A' Al : Option Addr) (ca cb cl nl : Nat) (d : Nat) (hd : d = 0) (w : World) (hB : B < w.heap.size) (cA : w.cell? ⟨B, 0, none⟩ = some (.slice A a.length ca)) (cB : w.cell? ⟨B, 1, none⟩ = some (.slice A' b.length cb))
    (hsa : Sl w w.heap.size A a.length 1 (i32V a)) (hsb : Sl w w.heap.size A' b.length 1 (i32V b)) (hn : a.length ≤ 100000) (hm : b.length ≤ 100000) :
    Calls Tryd.prog 108 #[.pointer (some ⟨B, 0, none⟩), .int .i64 (d : Int), .slice Al nl cl] w fun r w' => Below w.heap.size w w' ∧ ∃ g c, r = .returned (.slice (some ⟨g, 0, none⟩) (d + 1) c) ∧
      w'.ownsRow w.heap.size 21 1 (.slice (some ⟨g, 0, none⟩) (d + 1) c) (d + 1) (natV (lst a b d)) := by
  subst hd
  have h := next0_any a b B A A' Al ca cb cl nl w hB cA cB hsa hsb hn hm
  first
    | exact h
    | simpa using h
def SavedOk (a b : List Int) (w : World) (mm : Int → Option Value) (j : Nat) : Prop := ∃ g c, mm (j : Int) = some (.slice (some ⟨g, 0, none⟩) (j + 1) c) ∧ Sl w w.heap.size (some ⟨g, 0, none⟩) (j + 1) 1 (natV (lst a b j))
/-- What stands while the search goes on. -/
structure CostAt (a b : List Int) (B M base : Nat) (A A' : Option Addr) (ca cb : Nat) (v3 v4 : Value) (w : World) (d : Nat) (wr : World) : Prop where
  bel : Below base w wr
  box : wr.heap[B]? = some (.cells #[.slice A a.length ca, .slice A' b.length cb, .map (some M), v3, v4] 142 (0, 0))
  map : ∃ nn mm, nn ≤ d ∧ MapV wr Tryd.prog 3 IntOk intL M nn mm ∧ ∀ j, j < d → j % 64 = 0 → SavedOk a b wr mm j
  ra : Sl wr wr.heap.size A a.length 1 (i32V a)
  rb : Sl wr wr.heap.size A' b.length 1 (i32V b)
section
variable {a b : List Int} {B M base d ca cb : Nat} {A A' : Option Addr} {v3 v4 : Value} {w wr w' : World}
theorem CostAt.below (h : CostAt a b B M base A A' ca cb v3 v4 w d wr) (hbs : base ≤ wr.heap.size) (hb : Below wr.heap.size wr w') : CostAt a b B M base A A' ca cb v3 v4 w d w' := by
  obtain ⟨nn, mm, h1, h2, h3⟩ := h.map
  refine ⟨h.bel.trans (hb.mono hbs), (hb.block B (Array.getElem?_eq_some_iff.1 h.box).1).trans h.box, ⟨nn, mm, h1, h2.below hb, fun j hj h0 => ?_⟩, (h.ra.keep hb).more hb.size, (h.rb.keep hb).more hb.size⟩
  obtain ⟨g, c, e, hs⟩ := h3 j hj h0
  exact ⟨g, c, e, (hs.keep hb).more hb.size⟩
theorem CostAt.skip (h : CostAt a b B M base A A' ca cb v3 v4 w d wr) (hd : d % 64 ≠ 0) : CostAt a b B M base A A' ca cb v3 v4 w (d + 1) wr := by
  obtain ⟨nn, mm, h1, h2, h3⟩ := h.map
  exact ⟨h.bel, h.box, ⟨nn, mm, by omega, h2, fun j hj h0 => h3 j (by by_cases e : j = d; exact absurd (e ▸ h0) hd; omega) h0⟩, h.ra, h.rb⟩
theorem CostAt.put (h : CostAt a b B M base A A' ca cb v3 v4 w d wr) (hMb : base ≤ M) (hBM : B ≠ M) (hbs : base ≤ wr.heap.size) {nn : Nat} {mm : Int → Option Value} (h1 : nn ≤ d) (h2 : MapV wr Tryd.prog 3 IntOk intL M nn mm) (h3 : ∀ j, j < d → j % 64 = 0 → SavedOk a b wr mm j) {g c : Nat}
    (hs : Sl wr wr.heap.size (some ⟨g, 0, none⟩) (d + 1) 1 (natV (lst a b d))) (hm' : MapV w' Tryd.prog 3 IntOk intL M (nn + 1) (fun k => if k = (d : Int) then some (.slice (some ⟨g, 0, none⟩) (d + 1) c) else mm k)) (hg : wr.grownBy w' (some M)) :
    CostAt a b B M base A A' ca cb v3 v4 w (d + 1) w' := by
  have hM : ∃ es c, wr.heap[M]? = some (.map es c) := by
    obtain ⟨D, ⟨es, clock, hbk, _⟩, _⟩ := h2
    exact ⟨es, clock, hbk⟩
  refine ⟨h.bel.grown hg hbs (fun k e => by rw [← Option.some.inj e]; exact hMb), (hg.block B (Array.getElem?_eq_some_iff.1 h.box).1 (fun q => hBM (Option.some.inj q))).trans h.box, ⟨nn + 1, _, by omega, hm', fun j hj h0 => ?_⟩, h.ra.grown hM hg, h.rb.grown hM hg⟩
  by_cases e : j = d
  · subst e
    exact ⟨g, c, by simp, hs.grown hM hg⟩
  · obtain ⟨g', c', e', hs'⟩ := h3 j (by omega) h0
    refine ⟨g', c', ?_, hs'.grown hM hg⟩
    show (if (j : Int) = (d : Int) then _ else _) = _
    rw [if_neg (by omega)]
    exact e'
end
set_option maxHeartbeats 8000000 in
set_option maxRecDepth 100000 in
theorem cost_any (a b : List Int) (B M base : Nat) (A A' : Option Addr) (ca cb : Nat) (v3 v4 : Value) (w : World) (hC : CostAt a b B M base A A' ca cb v3 v4 w 0 w) (hbs : base ≤ w.heap.size) (hBb : base ≤ B) (hMb : base ≤ M) (hBM : B ≠ M) (hn : a.length ≤ 100000) (hm : b.length ≤ 100000) :
    Calls Tryd.prog 83 #[.pointer (some ⟨B, 0, none⟩)] w fun e w' => e = .returned (.int .i64 (C a b 0 0 : Int)) ∧ CostAt a b B M base A A' ca cb v3 v4 w (C a b 0 0 + 1) w' := by
  have hDb : C a b 0 0 ≤ 200000 := by
    have h1 := C_zero_i (a := a) (b := b) a.length (Nat.le_refl _)
    have h2 := C_end (a := a) (b := b) (i := a.length) (j := 0) rfl
    omega
  have HC0 := Lib.hid hC
  clear hC
  go_enter Tryd.func83, Tryd.ntmps83
  go_wp2_with fail
  go_loopw [3, 4] (fun l t wr => ∃ d : Nat, d ≤ C a b 0 0 ∧ t = .int .i64 d ∧ w.heap.size ≤ wr.heap.size ∧ Hid (CostAt a b B M base A A' ca cb v3 v4 w d wr) ∧ Hid ((d = 0 ∧ l = .slice none 0 0) ∨ (∃ e g c, d = e + 1 ∧ l = .slice (some ⟨g, 0, none⟩) d c ∧ Sl wr wr.heap.size (some ⟨g, 0, none⟩) d 1 (natV (lst a b e))))) (fun _ t _ => C a b 0 0 + 1 - (intOf t).toNat)
  case atStart => exact ⟨0, Nat.zero_le _, rfl, Nat.le_refl _, HC0, Lib.hid (.inl ⟨rfl, rfl⟩)⟩
  case round =>
    obtain ⟨d, hd, rfl, hsz, HC, HLL⟩ := hrel
    have hbox := HC.out.box
    have hBz : B < wr.heap.size := (Array.getElem?_eq_some_iff.1 hbox).1
    have hbw : base ≤ wr.heap.size := Nat.le_trans hbs hsz
    have cA : wr.cell? ⟨B, 0, none⟩ = some (.slice A a.length ca) := cells_box hbox 0
    have cB : wr.cell? ⟨B, 1, none⟩ = some (.slice A' b.length cb) := cells_box hbox 1
    have hmt : (d : Int).tmod 64 = ((d % 64 : Nat) : Int) := by rw [Int.tmod_eq_emod_of_nonneg (by omega)]; omega
    rcases HLL.out with ⟨hd0, rfl⟩ | ⟨e, g, c, hde, rfl, hsl⟩
    · have hnx := next0_any' a b B A A' none ca cb 0 0 d hd0 wr hBz cA cB HC.out.ra HC.out.rb hn hm
      have HD0 := Lib.hid hd0
      clear hd0
      go_upto_region 5 with (go_at_call 108; refine hnx.mono ?_; rintro r w2 ⟨hb2, g2, c2, rfl, hown2⟩)
      clear hnx
      have C2 : Hid (CostAt a b B M base A A' ca cb v3 v4 w d w2) := HC.out.below hbw hb2
      have S2 : Hid (Sl w2 w2.heap.size (some ⟨g2, 0, none⟩) (d + 1) 1 (natV (lst a b d))) := Sl.of_own hown2
      have hz2 : w.heap.size ≤ w2.heap.size := Nat.le_trans hsz hb2.size
      clear hb2 hown2 cA cB hbox
      by_cases hmod : d % 64 = 0
      · rw [hmod] at hmt
        obtain ⟨nn, mm, hnn, hM, hsv⟩ := C2.out.map
        have cM : w2.cell? ⟨B, 2, none⟩ = some (.map (some M)) := cells_box C2.out.box 2
        have HM := Lib.hid hM; have HSV := Lib.hid hsv
        clear hM hsv
        go_upto_region 7 with (refine wp_mapPut rfl _ _ _ 139 rfl 100 intEnc Tryd.underlying139 rfl HM.out (by unfold maxLen; omega) (d : Int) (by unfold IntOk; simp [Lit.wf, IntKind.min, IntKind.max, IntKind.signed, IntKind.bits]; omega) rfl _ rfl ?_; intro w3 hm3 hg3)
        have C3 : Hid (CostAt a b B M base A A' ca cb v3 v4 w (d + 1) w3) := C2.out.put hMb hBM (Nat.le_trans hbs hz2) hnn HM.out HSV.out S2.out hm3 hg3
        have S3 : Hid (Sl w3 w3.heap.size (some ⟨g2, 0, none⟩) (d + 1) 1 (natV (lst a b d))) := S2.out.grown (by obtain ⟨D, ⟨es, clock, hbk, _⟩, _⟩ := HM.out; exact ⟨es, clock, hbk⟩) hg3
        have hz3 : w.heap.size ≤ w3.heap.size := Nat.le_trans hz2 hg3.size
        clear cM hm3 hg3
        have hbx := C3.out.box
        have hle := least_any a b B A A' (some ⟨g2, 0, none⟩) ca cb c2 d (lst a b d) 0 w3 (Array.getElem?_eq_some_iff.1 hbx).1 (cells_box hbx 0) (cells_box hbx 1) (by rw [lst_length]; exact S3.out) (by rw [lst_length]; omega) (lst_never (by unfold never; omega) d) hn hm (by omega) (by omega)
        rw [lst_length] at hle
        have hlz := least_zero (a := a) (b := b) (d := d) (by unfold never; omega) hd
        obtain ⟨lv, hlv⟩ : ∃ lv, leastS a b d (lst a b d) 0 = lv := ⟨_, rfl⟩
        rw [hlv] at hle hlz
        clear hbx hlv
        by_cases hlv0 : lv = 0
        · have hdD := hlz.1 hlv0
          have HDD := Lib.hid hdD
          have hlb : ((lv : Int) == 0) = true := by rw [hlv0]; rfl
          clear hdD hlz hlv0
          go_wp2_with (go_at_call 84; refine hle.mono ?_; rintro r w4 ⟨rfl, hg4⟩)
          go_ret
          have h4 := C3.out.below (Nat.le_trans hbs hz3) hg4.below
          rw [HDD.out] at h4
          exact ⟨by rw [← HDD.out]; rfl, h4⟩
        · have hlb : ((lv : Int) == 0) = false := by rw [beq_eq_false_iff_ne]; omega
          have hdD : d < C a b 0 0 := by
            rcases Nat.lt_or_eq_of_le hd with h | h
            · exact h
            · exact absurd (hlz.2 h) hlv0
          clear hlz hlv0
          go_wp2_with (go_at_call 84; refine hle.mono ?_; rintro r w4 ⟨rfl, hg4⟩)
          go_roundw
          case rel => exact ⟨d + 1, hdD, by go_num, Nat.le_trans hz3 hg4.below.size, Lib.hid (C3.out.below (Nat.le_trans hbs hz3) hg4.below), Lib.hid (.inr ⟨d, g2, c2, rfl, rfl, (S3.out.keep hg4.below).more hg4.below.size⟩)⟩
          case measure => simp [intOf]; omega

      · have hmi : (((d % 64 : Nat) : Int) == 0) = false := by rw [beq_eq_false_iff_ne]; omega
        have C3 : Hid (CostAt a b B M base A A' ca cb v3 v4 w (d + 1) w2) := C2.out.skip hmod
        go_upto_region 7 with fail
        have hbx := C3.out.box
        have hle := least_any a b B A A' (some ⟨g2, 0, none⟩) ca cb c2 d (lst a b d) 0 w2 (Array.getElem?_eq_some_iff.1 hbx).1 (cells_box hbx 0) (cells_box hbx 1) (by rw [lst_length]; exact S2.out) (by rw [lst_length]; omega) (lst_never (by unfold never; omega) d) hn hm (by omega) (by omega)
        rw [lst_length] at hle
        have hlz := least_zero (a := a) (b := b) (d := d) (by unfold never; omega) hd
        obtain ⟨lv, hlv⟩ : ∃ lv, leastS a b d (lst a b d) 0 = lv := ⟨_, rfl⟩
        rw [hlv] at hle hlz
        clear hbx hlv
        by_cases hlv0 : lv = 0
        · have hdD := hlz.1 hlv0
          have HDD := Lib.hid hdD
          have hlb : ((lv : Int) == 0) = true := by rw [hlv0]; rfl
          clear hdD hlz hlv0
          go_wp2_with (go_at_call 84; refine hle.mono ?_; rintro r w4 ⟨rfl, hg4⟩)
          go_ret
          have h4 := C3.out.below (Nat.le_trans hbs hz2) hg4.below
          rw [HDD.out] at h4
          exact ⟨by rw [← HDD.out]; rfl, h4⟩
        · have hlb : ((lv : Int) == 0) = false := by rw [beq_eq_false_iff_ne]; omega
          have hdD : d < C a b 0 0 := by
            rcases Nat.lt_or_eq_of_le hd with h | h
            · exact h
            · exact absurd (hlz.2 h) hlv0
          clear hlz hlv0
          go_wp2_with (go_at_call 84; refine hle.mono ?_; rintro r w4 ⟨rfl, hg4⟩)
          go_roundw
          case rel => exact ⟨d + 1, hdD, by go_num, Nat.le_trans hz2 hg4.below.size, Lib.hid (C3.out.below (Nat.le_trans hbs hz2) hg4.below), Lib.hid (.inr ⟨d, g2, c2, rfl, rfl, (S2.out.keep hg4.below).more hg4.below.size⟩)⟩
          case measure => simp [intOf]; omega
    · have hnx := next_any a b B A A' (some ⟨g, 0, none⟩) ca cb c e wr hBz cA cB HC.out.ra HC.out.rb (by rw [← hde]; exact hsl) hn hm (by omega)
      rw [show e + 2 = d + 1 by omega, ← hde] at hnx
      have HDE := Lib.hid hde
      clear hde
      clear hsl
      go_upto_region 5 with (go_at_call 108; refine hnx.mono ?_; rintro r w2 ⟨hb2, g2, c2, rfl, hown2⟩)
      clear hnx
      have C2 : Hid (CostAt a b B M base A A' ca cb v3 v4 w d w2) := HC.out.below hbw hb2
      have S2 : Hid (Sl w2 w2.heap.size (some ⟨g2, 0, none⟩) (d + 1) 1 (natV (lst a b d))) := Sl.of_own hown2
      have hz2 : w.heap.size ≤ w2.heap.size := Nat.le_trans hsz hb2.size
      clear hb2 hown2 cA cB hbox
      by_cases hmod : d % 64 = 0
      · rw [hmod] at hmt
        obtain ⟨nn, mm, hnn, hM, hsv⟩ := C2.out.map
        have cM : w2.cell? ⟨B, 2, none⟩ = some (.map (some M)) := cells_box C2.out.box 2
        have HM := Lib.hid hM; have HSV := Lib.hid hsv
        clear hM hsv
        go_upto_region 7 with (refine wp_mapPut rfl _ _ _ 139 rfl 100 intEnc Tryd.underlying139 rfl HM.out (by unfold maxLen; omega) (d : Int) (by unfold IntOk; simp [Lit.wf, IntKind.min, IntKind.max, IntKind.signed, IntKind.bits]; omega) rfl _ rfl ?_; intro w3 hm3 hg3)
        have C3 : Hid (CostAt a b B M base A A' ca cb v3 v4 w (d + 1) w3) := C2.out.put hMb hBM (Nat.le_trans hbs hz2) hnn HM.out HSV.out S2.out hm3 hg3
        have S3 : Hid (Sl w3 w3.heap.size (some ⟨g2, 0, none⟩) (d + 1) 1 (natV (lst a b d))) := S2.out.grown (by obtain ⟨D, ⟨es, clock, hbk, _⟩, _⟩ := HM.out; exact ⟨es, clock, hbk⟩) hg3
        have hz3 : w.heap.size ≤ w3.heap.size := Nat.le_trans hz2 hg3.size
        clear cM hm3 hg3
        have hbx := C3.out.box
        have hle := least_any a b B A A' (some ⟨g2, 0, none⟩) ca cb c2 d (lst a b d) 0 w3 (Array.getElem?_eq_some_iff.1 hbx).1 (cells_box hbx 0) (cells_box hbx 1) (by rw [lst_length]; exact S3.out) (by rw [lst_length]; omega) (lst_never (by unfold never; omega) d) hn hm (by omega) (by omega)
        rw [lst_length] at hle
        have hlz := least_zero (a := a) (b := b) (d := d) (by unfold never; omega) hd
        obtain ⟨lv, hlv⟩ : ∃ lv, leastS a b d (lst a b d) 0 = lv := ⟨_, rfl⟩
        rw [hlv] at hle hlz
        clear hbx hlv
        by_cases hlv0 : lv = 0
        · have hdD := hlz.1 hlv0
          have HDD := Lib.hid hdD
          have hlb : ((lv : Int) == 0) = true := by rw [hlv0]; rfl
          clear hdD hlz hlv0
          go_wp2_with (go_at_call 84; refine hle.mono ?_; rintro r w4 ⟨rfl, hg4⟩)
          go_ret
          have h4 := C3.out.below (Nat.le_trans hbs hz3) hg4.below
          rw [HDD.out] at h4
          exact ⟨by rw [← HDD.out]; rfl, h4⟩
        · have hlb : ((lv : Int) == 0) = false := by rw [beq_eq_false_iff_ne]; omega
          have hdD : d < C a b 0 0 := by
            rcases Nat.lt_or_eq_of_le hd with h | h
            · exact h
            · exact absurd (hlz.2 h) hlv0
          clear hlz hlv0
          go_wp2_with (go_at_call 84; refine hle.mono ?_; rintro r w4 ⟨rfl, hg4⟩)
          go_roundw
          case rel => exact ⟨d + 1, hdD, by go_num, Nat.le_trans hz3 hg4.below.size, Lib.hid (C3.out.below (Nat.le_trans hbs hz3) hg4.below), Lib.hid (.inr ⟨d, g2, c2, rfl, rfl, (S3.out.keep hg4.below).more hg4.below.size⟩)⟩
          case measure => simp [intOf]; omega

      · have hmi : (((d % 64 : Nat) : Int) == 0) = false := by rw [beq_eq_false_iff_ne]; omega
        have C3 : Hid (CostAt a b B M base A A' ca cb v3 v4 w (d + 1) w2) := C2.out.skip hmod
        go_upto_region 7 with fail
        have hbx := C3.out.box
        have hle := least_any a b B A A' (some ⟨g2, 0, none⟩) ca cb c2 d (lst a b d) 0 w2 (Array.getElem?_eq_some_iff.1 hbx).1 (cells_box hbx 0) (cells_box hbx 1) (by rw [lst_length]; exact S2.out) (by rw [lst_length]; omega) (lst_never (by unfold never; omega) d) hn hm (by omega) (by omega)
        rw [lst_length] at hle
        have hlz := least_zero (a := a) (b := b) (d := d) (by unfold never; omega) hd
        obtain ⟨lv, hlv⟩ : ∃ lv, leastS a b d (lst a b d) 0 = lv := ⟨_, rfl⟩
        rw [hlv] at hle hlz
        clear hbx hlv
        by_cases hlv0 : lv = 0
        · have hdD := hlz.1 hlv0
          have HDD := Lib.hid hdD
          have hlb : ((lv : Int) == 0) = true := by rw [hlv0]; rfl
          clear hdD hlz hlv0
          go_wp2_with (go_at_call 84; refine hle.mono ?_; rintro r w4 ⟨rfl, hg4⟩)
          go_ret
          have h4 := C3.out.below (Nat.le_trans hbs hz2) hg4.below
          rw [HDD.out] at h4
          exact ⟨by rw [← HDD.out]; rfl, h4⟩
        · have hlb : ((lv : Int) == 0) = false := by rw [beq_eq_false_iff_ne]; omega
          have hdD : d < C a b 0 0 := by
            rcases Nat.lt_or_eq_of_le hd with h | h
            · exact h
            · exact absurd (hlz.2 h) hlv0
          clear hlz hlv0
          go_wp2_with (go_at_call 84; refine hle.mono ?_; rintro r w4 ⟨rfl, hg4⟩)
          go_roundw
          case rel => exact ⟨d + 1, hdD, by go_num, Nat.le_trans hz2 hg4.below.size, Lib.hid (C3.out.below (Nat.le_trans hbs hz2) hg4.below), Lib.hid (.inr ⟨d, g2, c2, rfl, rfl, (S2.out.keep hg4.below).more hg4.below.size⟩)⟩
          case measure => simp [intOf]; omega
end Go.Proofs.YtfjmbcljohobeaaDoor
