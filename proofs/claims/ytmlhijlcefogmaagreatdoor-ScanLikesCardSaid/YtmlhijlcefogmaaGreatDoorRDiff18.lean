/-
  What the document's Diff gives: edits that keep as many runes as the script of least cost. Conditions: texts of at most 300 bytes.
-/
import Derived.Test.YtmlhijlcefogmaaGreatDoorDiff18
import Derived.Test.YtmlhijlcefogmaaGreatDoorMerged16
import Derived.Test.YtmlhijlcefogmaaGreatDoorMerged2
set_option linter.unusedVariables false
set_option linter.unusedSimpArgs false
set_option maxHeartbeats 4000000
set_option maxRecDepth 100000
namespace Go.Proofs.YtmlhijlcefogmaaGreatDoor
open Go.RowKit Go.Maps Go.Shelf

theorem rruns_some {s : ByteArray} {x : List Nat} (hs : s.size ≤ 300) (h : runesOf s = some x) (w : World) : Calls Tryz.prog 30 #[.string s] w fun e w' => Below w.heap.size w w' ∧ ∃ A c, e = .returned (.tuple #[.slice A x.length c, .int .i64 0, .int .i64 0]) ∧ Sl w' w'.heap.size A x.length 1 (i32s x) :=
  (runes_any s w (by omega)).mono fun e w' ⟨h1, h2⟩ => by
    rcases h2 with ⟨l, A, c, k1, k2, k3⟩ | ⟨k1, _⟩
    · rw [h] at k1; injection k1 with k1; subst k1; exact ⟨h1, A, c, k2, k3⟩
    · rw [h] at k1; cases k1
theorem decode_most (s : ByteArray) (pos : Nat) : (Utf8.decode s pos).1 ≤ 1114111 := by
  have hb : ∀ k, (s.get! (pos + k)).toNat < 256 := fun k => (s.get! (pos + k)).toNat_lt
  have h0 := hb 0; have h1 := hb 1; have h2 := hb 2; have h3 := hb 3
  simp only [Utf8.decode]
  repeat' split
  all_goals simp_all [Utf8.runeError, Utf8.valid]
  all_goals omega
theorem runes_most {s : ByteArray} {l : List Nat} (h : runesOf s = some l) : ∀ r ∈ l, r ≤ 1114111 := by
  have all : ∀ m pos l, s.size - pos = m → runesAt s pos = some l → ∀ r ∈ l, r ≤ 1114111 := by
    intro m
    induction m using Nat.strongRecOn with
    | ind m ih =>
      intro pos l hm hl
      by_cases hp : pos < s.size
      · cases ho : okAt s pos with
        | false => rw [runesAt_bad hp ho] at hl; cases hl
        | true =>
          rw [runesAt_ok hp ho] at hl
          cases hr : runesAt s (pos + (Utf8.decode s pos).2) with
          | none => rw [hr] at hl; cases hl
          | some r =>
            rw [hr] at hl
            injection hl with hl
            subst hl
            have hd := dec_in hp
            have := ih (s.size - (pos + (Utf8.decode s pos).2)) (by omega) _ r rfl hr
            intro q hq
            rcases List.mem_cons.1 hq with rfl | hq
            · exact decode_most s pos
            · exact this q hq
      · rw [runesAt_end (by omega)] at hl
        injection hl with hl
        subst hl
        intro r hr
        cases hr
  exact all _ 0 l rfl h
/-- The bytes of a rune, as bytes. -/
def encL (r : Int) : List UInt8 := (encB r).map fun x => UInt8.ofNat x.toNat
theorem encL_idV {r : Int} (h0 : 0 ≤ r) (h1 : r ≤ 1114111) : (encB r).map (Value.int .u8) = idV (encL r) ∧ (encB r).length ≤ 4 := by
  have all : ∀ l : List Int, (∀ x ∈ l, 0 ≤ x ∧ x < 256) → l.map (Value.int .u8) = idV (l.map fun x => UInt8.ofNat x.toNat) := by
    intro l hl
    unfold idV
    rw [List.map_map]
    apply List.map_congr_left
    intro x hx
    have := hl x hx
    simp
    omega
  unfold encL
  rcases (by omega : r < 128 ∨ (128 ≤ r ∧ r < 2048) ∨ (2048 ≤ r ∧ r < 65536) ∨ 65536 ≤ r) with a | ⟨a, b⟩ | ⟨a, b⟩ | a
  · rw [encB1 a]; exact ⟨all _ (by intro x hx; simp at hx; omega), by simp⟩
  · rw [encB2 a b]; exact ⟨all _ (by intro x hx; simp at hx; omega), by simp⟩
  · rw [encB3 a b]; exact ⟨all _ (by intro x hx; simp at hx; omega), by simp⟩
  · rw [encB4 a]; exact ⟨all _ (by intro x hx; simp at hx; omega), by simp⟩
theorem conv_new18 (w : World) (l : List UInt8) (n : Nat) (hn : l.length = n) : (convert 78 9 (.slice (some ⟨w.heap.size, 0, none⟩) n n)).run Tryz.prog (w.alloc (.cells (idV l).toArray 5)) = .ok (.string ⟨l.toArray⟩) (w.alloc (.cells (idV l).toArray 5)) := by
  have h1 := Lib.run_convert_window (P := Tryz.prog) (w.alloc (.cells (idV l).toArray 5)) 78 5 9 Tryz.underlying78 Tryz.underlying5 Tryz.underlying9 w.heap.size 0 ⟨l.toArray⟩ (fun i hi => by
    have hi' : i < l.length := hi
    refine (cells_at0 (heap_alloc_new w _) (0 + i)).trans ?_
    rw [Nat.zero_add]
    unfold idV
    rw [List.getElem?_map, List.getElem?_eq_getElem hi']
    rfl) 0 n n (by show 0 + n ≤ l.length; omega)
  rw [Nat.zero_add, Nat.zero_add] at h1
  have e2 : ByteArray.extract ⟨l.toArray⟩ 0 n = ⟨l.toArray⟩ := by
    have e : n = (⟨l.toArray⟩ : ByteArray).size := by show n = l.toArray.size; rw [List.size_toArray]; exact hn.symm
    rw [e]
    exact ByteArray.extract_zero_size
  rw [e2] at h1
  exact h1
theorem ex_conv18 {ρ : Operand → Value} {o : Oper} {w : World} {x : Operand} {s t : TypeId} {u v : Value} (ho : o.op = .convert s t x) (hx : ρ x = u) (hr : (convert s t u).run Tryz.prog w = .ok v w) : (execOp ρ o).run Tryz.prog w = .ok (.value v) w := by
  unfold execOp
  simp only [ho, hx, Sem.run_bind, hr]
  rfl
theorem rbytes18 (r : Int) (w : World) (h0 : 0 ≤ r) (h1 : r ≤ 1114111) : Calls Tryz.prog 32 #[.int .i32 r] w fun e w' => w.alloc (.cells (idV (encL r)).toArray 5) = w' ∧ e = .returned (.slice (some ⟨w.heap.size, 0, none⟩) (encL r).length (encL r).length) :=
  (refBytes_any r w h0 h1).mono fun e w' ⟨k1, k2⟩ => by
    rw [(encL_idV h0 h1).1] at k1
    have hl : (encL r).length = (encB r).length := by unfold encL; rw [List.length_map]
    rw [hl]
    exact ⟨k1, k2⟩
theorem at_bSlice {P : Program} {ops : Array Oper} {Q : Exit → Act → World → Prop} {rest : List Oper} {a : Act} {w : World} {d : Option Tmp} {t : TypeId} {p : String} {af : Array Edge} {g : Option (Nat × Bool)} {ty : TypeId} {n : Nat} {xs : Array (Nat × Operand)} (h : wpList P ops Q ({ dst := d, op := .buildSlice ty n xs, type := t, pos := p, after := af, guard := g } :: rest) a w) : wpList P ops Q ({ dst := d, op := .buildSlice ty n xs, type := t, pos := p, after := af, guard := g } :: rest) a w := h
theorem ex_addS18 {P : Program} {ρ : Operand → Value} {o : Oper} {w : World} (t t' : TypeId) (x y : Operand) (ho : o.op = .binOp .add t x y t') {a b : ByteArray} (hx : ρ x = .string a) (hy : ρ y = .string b) (hz : a.size + b.size ≤ 9223372036854775807) : (execOp ρ o).run P w = .ok (.value (.string (a ++ b))) w := by
  unfold execOp
  simp [ho, hx, hy, binOp, Result.andThen, eqGuard, Op.stringOp, IntKind.max, IntKind.signed, IntKind.bits]
  rw [if_neg (by omega)]

theorem rdiff_bad (a b : ByteArray) (w : World) (ha : a.size ≤ 300) (hb : b.size ≤ 300) (h : runesOf a = none ∨ runesOf b = none) : Calls Tryz.prog 18 #[.string a, .string b] w (DiffGives a b w) := by
  have HH := Lib.hid h
  have run : ∀ (s : ByteArray) (u : World), s.size ≤ 300 → Calls Tryz.prog 30 #[.string s] u fun e w' => Below u.heap.size u w' ∧ ∃ v z : Value, ∃ r : Int, e = .returned (.tuple #[v, z, .int .i64 r]) ∧ (r = 0 ∨ r = 5) ∧ (runesOf s = none → r = 5) := fun s u hs => (runes_any s u (by omega)).mono fun e w' ⟨h1, h2⟩ => by
    rcases h2 with ⟨l, A, c, k1, k2, _⟩ | ⟨k1, n, k2⟩
    · exact ⟨h1, _, _, 0, k2, .inl rfl, fun h => by rw [h] at k1; cases k1⟩
    · exact ⟨h1, _, _, 5, k2, .inr rfl, fun _ => rfl⟩
  have HA := Lib.hid (fun u => run a u ha); have HB := Lib.hid (fun u => run b u hb)
  clear run h
  go_enter Tryz.func18, Tryz.ntmps18
  go_upto_region 2 with (first
    | (go_at_call 30; refine (HA.out _).mono ?_; rintro e W1 ⟨hb1, v1, z1, r1, rfl, hr1, hq1⟩; have HB1 := Lib.hid hb1; have HQ1 := Lib.hid hq1; have HR1 := Lib.hid hr1; clear hb1 hq1 hr1))
  go_upto_region 3 with (first
    | (go_at_call 30; refine (HB.out _).mono ?_; rintro e W2 ⟨hb2, v2, z2, r2, rfl, hr2, hq2⟩; have HB2 := Lib.hid hb2; have HQ2 := Lib.hid hq2; have HR2 := Lib.hid hr2; clear hb2 hq2 hr2))
  have HBW : Hid (Below w.heap.size w W2) := Lib.hid (HB1.out.trans (HB2.out.mono HB1.out.size))
  rcases HR1.out with rfl | rfl <;> rcases HR2.out with rfl | rfl
  · exfalso
    rcases HH.out with h | h
    · exact absurd (HQ1.out h) (by decide)
    · exact absurd (HQ2.out h) (by decide)
  all_goals
    go_wp2
    go_ret2
    exact ⟨HBW.out, .inr ⟨HH.out, rfl⟩⟩

theorem rdiff_good (a b : ByteArray) (x y : List Nat) (w : World) (ha : a.size ≤ 300) (hb : b.size ≤ 300) (hx : runesOf a = some x) (hy : runesOf b = some y) : Calls Tryz.prog 18 #[.string a, .string b] w (DiffGives a b w) := by
  have HA := Lib.hid (rruns_some ha hx w); have HB := Lib.hid (fun u => rruns_some hb hy u)
  have hxl : (intsN x).length ≤ 300 := by rw [intsN_length]; exact Nat.le_trans (runes_le hx) ha
  have hyl : (intsN y).length ≤ 300 := by rw [intsN_length]; exact Nat.le_trans (runes_le hy) hb
  have HYM : Hid (∀ v ∈ intsN y, 0 ≤ v ∧ v ≤ 1114111) := Lib.hid (by
    intro v hv
    unfold intsN at hv
    obtain ⟨r, hr, rfl⟩ := List.mem_map.1 hv
    have := runes_most hy r hr
    omega)
  rw [i32s_ints, ← intsN_length x] at HA
  rw [i32s_ints, ← intsN_length y] at HB
  have HXY := Lib.hid (And.intro hx hy)
  clear hx hy
  have hml := moves_length _ (intsN x) (intsN y) (Nat.le_refl _)
  have hare := moves_are _ (intsN x) (intsN y) (Nat.le_refl _)
  have hstep := fun i => diff_step (a := intsN x) (b := intsN y) (i := i)
  have hmv := fun A A' ca cb u h1 h2 => refMoves_any (intsN x) (intsN y) A A' ca cb u h1 h2 (by omega) (by omega)
  have HMV := Lib.hid hmv; have HST := Lib.hid hstep; have HMA := Lib.hid hare
  have hM : (movesS (intsN x) (intsN y)).length ≤ 600 := by omega
  clear hmv hstep hml hare
  go_enter Tryz.func18, Tryz.ntmps18
  go_upto_region 2 with (first
    | (go_at_call 30; refine HA.out.mono ?_; rintro e W1 ⟨hb1, A1, c1, rfl, hs1⟩; have HB1 := Lib.hid hb1; have HS1 := Lib.hid hs1; clear hb1 hs1))
  go_upto_region 3 with (first
    | (go_at_call 30; refine (HB.out _).mono ?_; rintro e W2 ⟨hb2, A2, c2, rfl, hs2⟩; have HB2 := Lib.hid hb2; have HS2 := Lib.hid hs2; clear hb2 hs2))
  have HS3 := Lib.hid ((HS1.out.keep HB2.out).more HB2.out.size)
  go_upto_region 11 with (first
    | (go_at_call 31; refine (HMV.out _ _ _ _ _ HS3.out HS2.out).mono ?_; rintro e W3 ⟨hb3, A3, c3, rfl, hs3⟩; have HB3 := Lib.hid hb3; have HS4 := Lib.hid hs3; clear hb3 hs3))
  have HBW : Hid (Below w.heap.size w W3) := Lib.hid (HB1.out.trans ((HB2.out.trans (HB3.out.mono HB2.out.size)).mono HB1.out.size))
  have HY3 := Lib.hid ((HS2.out.keep HB3.out).more HB3.out.size)
  obtain ⟨M, hMd⟩ : ∃ M, movesS (intsN x) (intsN y) = M := ⟨_, rfl⟩
  obtain ⟨Y, hYd⟩ : ∃ Y, intsN y = Y := ⟨_, rfl⟩
  have HMD := Lib.hid hMd; have HYD := Lib.hid hYd
  rw [hMd] at HS4 HST HMA hM ⊢
  rw [hYd] at HST HY3 HYM hyl ⊢
  clear hMd hYd HA HB HMV HS1 HS2 HS3 HB1 HB2 HB3
  go_loopw [14, 15, 16] (fun t14 t15 t16 wr => ∃ (i : Nat) (A : Option Addr) (c : Nat) (l : List EdD), i ≤ M.length ∧ t16 = .int .i64 (i : Int) ∧ t15 = .int .i64 ((placeS M i).2 : Int) ∧ t14 = .slice A l.length c ∧ Hid (EdOk M i l) ∧ Hid (Below W3.heap.size W3 wr) ∧ Hid (wr.ownsRow W3.heap.size 41 3 (.slice A l.length c) l.length (rowsV edV l))) (fun _ _ t16 _ => M.length - (intOf t16).toNat)
  case atStart => exact ⟨0, none, 0, [], Nat.zero_le _, rfl, rfl, rfl, Lib.hid (EdOk.start M), Lib.hid (Below.refl _ _), Lib.hid (World.ownsRow_nil _ _ _ _)⟩
  case round =>
    obtain ⟨i, A, c, l, hi, rfl, rfl, rfl, HE, HBR, HO⟩ := hrel
    by_cases hlt : i < M.length
    · have i0 : (0 : Int) ≤ (i : Int) := by omega
      have i1 : (i : Int) < (M.length : Int) := by omega
      obtain ⟨gm, om, hA3, hgm, hcl⟩ := HS4.out.2 (by omega)
      subst hA3
      have hcell : wr.cell? ⟨gm, om + i, none⟩ = some (.int .u8 (M[i] : Int)) := (HBR.out.cell (p := ⟨gm, om + i, none⟩) hgm).trans (hcl i _ (by simp [u8V, hlt]))
      obtain ⟨hp0, hst⟩ := HST.out i hlt
      have HLE := Lib.hid HE.out.2.2.2
      obtain ⟨j, hj⟩ : ∃ j, (placeS M i).2 = j := ⟨_, rfl⟩
      rw [hj] at hp0 hst ⊢
      clear hj
      have hM9 : i < 600 := by omega
      have hll := HE.out.2.2.2
      rcases hst with ⟨hmi, hpn⟩ | ⟨hmi, hpn⟩ | ⟨hmi, hjl, hpn⟩
      · have HC : wr.cell? ⟨gm, om + i, none⟩ = some (.int .u8 1) := by rw [hcell, hmi]; rfl
        have HCM := Lib.hid HC
        have HPN := Lib.hid hpn; have HMI := Lib.hid hmi
        clear hpn hmi hcell
        rcases Nat.eq_zero_or_pos i with h0 | h0
        · clear hcl
          have hib : ((i : Int) == 0) = true := by rw [beq_iff_eq]; omega
          clear h0
          go_wp2_with (first
            | (with_reducible refine at_bSlice ?_
               refine wp_buildSlice1 (by rfl) 37 _ rfl 41 Tryz.underlying37 (.agg (edV edZ).toArray) 3 32 editInfo rfl (by decide) (by decide) (edV edZ) rfl rfl ?_)
            | (at_builtin
               refine wp_appNg rfl _ _ 37 rfl W3.heap.size 41 (.agg (edV edZ).toArray) 3 32 Tryz.underlying37 editInfo rfl (by decide) (.slice A l.length c) l.length (rowsV edV l) rfl HO.out (edV edZ) 41 rfl rfl (edV_one _) (by unfold maxLen; omega) (by omega) HBR.out.size ?_
               intro v1 w1 ho1 hbel1 hk1
               have HB2 := Lib.hid (hbel1 _ _ (Nat.le_refl _) HBR.out)
               have HO2 : Hid (w1.ownsRow W3.heap.size 41 3 v1 (l.length + 1) (rowsV edV (l ++ [edZ]))) := Lib.hid (by rw [rowsV_last]; exact ho1)
               clear ho1 hbel1 hk1
               obtain ⟨g, cg, tlE, rfl, hBg, hgb, hcg1, hcg2, htl⟩ := own_open HO2.out (by omega)
               have HGB := Lib.hid hgb; have HTL := Lib.hid (And.intro hcg1 (And.intro hcg2 htl))
               clear hgb hcg1 hcg2 htl
               have HE2 := Lib.hid HE.out.fresh
               obtain ⟨p, hp⟩ : ∃ p, l = p := ⟨_, rfl⟩
               rw [hp] at HO2 HE2 HGB HTL hll ⊢
               have HCW : Hid (w1.cell? ⟨gm, om + i, none⟩ = some (.int .u8 1)) := Lib.hid (((HB2.out.cell (p := ⟨gm, om + i, none⟩) hgm).trans (HBR.out.cell (p := ⟨gm, om + i, none⟩) hgm).symm).trans HCM.out)
               clear hp HE HO HBR HC
               have HC := HCW.out
               obtain ⟨e, he⟩ : ∃ e, edZ = e := ⟨_, rfl⟩
               rw [he] at HO2 HE2 HGB
               clear he
               have hpl : p.length ≤ 600 := by omega
               have he1 : e.1 ≤ 600 := by have := (HE2.out.1 e (by simp)).1; omega
               have he2 : e.2.1 ≤ 600 := by have := (HE2.out.1 e (by simp)).2.1; omega
               have hcl2 : w1.cell? ⟨g, p.length * 3, none⟩ = some (.int .i64 (e.1 : Int)) := (HO2.out.cellAt _ (by omega)).trans (ed_get p e 0 _ rfl)
               have hfz2 : w1.frozen? ⟨g, p.length * 3, none⟩ = false := HO2.out.frozenAt _
               have hne1 : gm ≠ g := by omega
               have hne2 : g ≠ gm := by omega
               have hi1 : IntKind.i64.wrap ((p.length : Int) + 1 - 1) = (p.length : Int) := (IntWalk.i64_in _ (by omega)).trans (by omega)
               have q0 : (0 : Int) ≤ (p.length : Int) := by omega
               have q1 : (p.length : Int) < (p.length : Int) + 1 := by omega))
          go_roundw
          case rel =>
            exact ⟨i + 1, some ⟨g, 0, none⟩, _, p ++ [(e.1 + 1, e.2.1, e.2.2)], by omega, by go_num, by rw [HPN.out] <;> go_num, by rw [List.length_append]; rfl, Lib.hid (EdOk.next hlt HE2.out (by rw [HMI.out]; rfl) (by first | exact Nat.le_refl _ | exact Nat.le_succ _) (Nat.le_add_right _ _)), Lib.hid (HB2.out.setCell hBg _), Lib.hid (by
              have h := (HO2.out.stored (p.length * 3 + 0) (.int .i64 ((e.1 : Int) + 1))).1
              rw [ed_set p e (e.1 + 1, e.2.1, e.2.2) 0 _ (by simp [edV])] at h
              simpa using h)⟩
          case measure => (simp [intOf]) <;> omega
        · have hcp0 : wr.cell? ⟨gm, om + (i - 1), none⟩ = some (.int .u8 (M[i - 1] : Int)) := (HBR.out.cell (p := ⟨gm, om + (i - 1), none⟩) hgm).trans (hcl (i - 1) _ (by simp [u8V, show i - 1 < M.length by omega]))
          have hma := HMA.out M[i - 1] (List.getElem_mem _)
          have hip : IntKind.i64.wrap ((i : Int) - 1) = ((i - 1 : Nat) : Int) := (IntWalk.i64_in _ (by omega)).trans (by omega)
          have ip0 : (0 : Int) ≤ ((i - 1 : Nat) : Int) := by omega
          have ip1 : ((i - 1 : Nat) : Int) < (M.length : Int) := by omega
          clear hcl
          rcases hma with hma | hma | hma
          · have hcp : wr.cell? ⟨gm, om + (i - 1), none⟩ = some (.int .u8 1) := by rw [hcp0, hma]; rfl
            clear hcp0 hma
            have hib : ((i : Int) == 0) = false := by rw [beq_eq_false_iff_ne]; omega
            obtain ⟨p, e, rfl⟩ := HE.out.last h0
            have HE2 := Lib.hid HE.out.same
            have HB2 := HBR
            rw [show (p ++ [e]).length = p.length + 1 by simp] at HO hll ⊢
            have HO2 := HO
            obtain ⟨g, cg, tlE, hv, hBg, hgb, hcg1, hcg2, htl⟩ := own_open HO2.out (by omega)
            have HGB := Lib.hid hgb; have HTL := Lib.hid (And.intro hcg1 (And.intro hcg2 htl))
            clear hgb hcg1 hcg2 htl
            injection hv with hv1 _ hv2
            subst hv1 hv2
            clear HE HO
            obtain ⟨w1, hw1⟩ : ∃ w1, wr = w1 := ⟨_, rfl⟩
            rw [hw1] at HB2 HO2 HBR HC HGB ⊢
            rw [hw1] at hcp
            clear hw1
            have hpl : p.length ≤ 600 := by omega
            have he1 : e.1 ≤ 600 := by have := (HE2.out.1 e (by simp)).1; omega
            have he2 : e.2.1 ≤ 600 := by have := (HE2.out.1 e (by simp)).2.1; omega
            have hcl2 : w1.cell? ⟨g, p.length * 3, none⟩ = some (.int .i64 (e.1 : Int)) := (HO2.out.cellAt _ (by omega)).trans (ed_get p e 0 _ rfl)
            have hfz2 : w1.frozen? ⟨g, p.length * 3, none⟩ = false := HO2.out.frozenAt _
            have hne1 : gm ≠ g := by omega
            have hne2 : g ≠ gm := by omega
            have hi1 : IntKind.i64.wrap ((p.length : Int) + 1 - 1) = (p.length : Int) := (IntWalk.i64_in _ (by omega)).trans (by omega)
            have q0 : (0 : Int) ≤ (p.length : Int) := by omega
            have q1 : (p.length : Int) < (p.length : Int) + 1 := by omega
            go_wp2_with fail
            go_roundw
            case rel =>
              exact ⟨i + 1, some ⟨g, 0, none⟩, _, p ++ [(e.1 + 1, e.2.1, e.2.2)], by omega, by go_num, by rw [HPN.out] <;> go_num, by rw [List.length_append]; rfl, Lib.hid (EdOk.next hlt HE2.out (by rw [HMI.out]; rfl) (by first | exact Nat.le_refl _ | exact Nat.le_succ _) (Nat.le_add_right _ _)), Lib.hid (HB2.out.setCell hBg _), Lib.hid (by
                have h := (HO2.out.stored (p.length * 3 + 0) (.int .i64 ((e.1 : Int) + 1))).1
                rw [ed_set p e (e.1 + 1, e.2.1, e.2.2) 0 _ (by simp [edV])] at h
                simpa using h)⟩
            case measure => (simp [intOf]) <;> omega
          · have hcp : wr.cell? ⟨gm, om + (i - 1), none⟩ = some (.int .u8 2) := by rw [hcp0, hma]; rfl
            clear hcp0 hma
            have hib : ((i : Int) == 0) = false := by rw [beq_eq_false_iff_ne]; omega
            go_wp2_with (first
              | (with_reducible refine at_bSlice ?_
                 refine wp_buildSlice1 (by rfl) 37 _ rfl 41 Tryz.underlying37 (.agg (edV edZ).toArray) 3 32 editInfo rfl (by decide) (by decide) (edV edZ) rfl rfl ?_)
              | (at_builtin
                 refine wp_appNg rfl _ _ 37 rfl W3.heap.size 41 (.agg (edV edZ).toArray) 3 32 Tryz.underlying37 editInfo rfl (by decide) (.slice A l.length c) l.length (rowsV edV l) rfl HO.out (edV edZ) 41 rfl rfl (edV_one _) (by unfold maxLen; omega) (by omega) HBR.out.size ?_
                 intro v1 w1 ho1 hbel1 hk1
                 have HB2 := Lib.hid (hbel1 _ _ (Nat.le_refl _) HBR.out)
                 have HO2 : Hid (w1.ownsRow W3.heap.size 41 3 v1 (l.length + 1) (rowsV edV (l ++ [edZ]))) := Lib.hid (by rw [rowsV_last]; exact ho1)
                 clear ho1 hbel1 hk1
                 obtain ⟨g, cg, tlE, rfl, hBg, hgb, hcg1, hcg2, htl⟩ := own_open HO2.out (by omega)
                 have HGB := Lib.hid hgb; have HTL := Lib.hid (And.intro hcg1 (And.intro hcg2 htl))
                 clear hgb hcg1 hcg2 htl
                 have HE2 := Lib.hid HE.out.fresh
                 obtain ⟨p, hp⟩ : ∃ p, l = p := ⟨_, rfl⟩
                 rw [hp] at HO2 HE2 HGB HTL hll ⊢
                 have HCW : Hid (w1.cell? ⟨gm, om + i, none⟩ = some (.int .u8 1)) := Lib.hid (((HB2.out.cell (p := ⟨gm, om + i, none⟩) hgm).trans (HBR.out.cell (p := ⟨gm, om + i, none⟩) hgm).symm).trans HCM.out)
                 clear hp HE HO HBR HC
                 have HC := HCW.out
                 obtain ⟨e, he⟩ : ∃ e, edZ = e := ⟨_, rfl⟩
                 rw [he] at HO2 HE2 HGB
                 clear he
                 have hpl : p.length ≤ 600 := by omega
                 have he1 : e.1 ≤ 600 := by have := (HE2.out.1 e (by simp)).1; omega
                 have he2 : e.2.1 ≤ 600 := by have := (HE2.out.1 e (by simp)).2.1; omega
                 have hcl2 : w1.cell? ⟨g, p.length * 3, none⟩ = some (.int .i64 (e.1 : Int)) := (HO2.out.cellAt _ (by omega)).trans (ed_get p e 0 _ rfl)
                 have hfz2 : w1.frozen? ⟨g, p.length * 3, none⟩ = false := HO2.out.frozenAt _
                 have hne1 : gm ≠ g := by omega
                 have hne2 : g ≠ gm := by omega
                 have hi1 : IntKind.i64.wrap ((p.length : Int) + 1 - 1) = (p.length : Int) := (IntWalk.i64_in _ (by omega)).trans (by omega)
                 have q0 : (0 : Int) ≤ (p.length : Int) := by omega
                 have q1 : (p.length : Int) < (p.length : Int) + 1 := by omega))
            go_roundw
            case rel =>
              exact ⟨i + 1, some ⟨g, 0, none⟩, _, p ++ [(e.1 + 1, e.2.1, e.2.2)], by omega, by go_num, by rw [HPN.out] <;> go_num, by rw [List.length_append]; rfl, Lib.hid (EdOk.next hlt HE2.out (by rw [HMI.out]; rfl) (by first | exact Nat.le_refl _ | exact Nat.le_succ _) (Nat.le_add_right _ _)), Lib.hid (HB2.out.setCell hBg _), Lib.hid (by
                have h := (HO2.out.stored (p.length * 3 + 0) (.int .i64 ((e.1 : Int) + 1))).1
                rw [ed_set p e (e.1 + 1, e.2.1, e.2.2) 0 _ (by simp [edV])] at h
                simpa using h)⟩
            case measure => (simp [intOf]) <;> omega
          · have hcp : wr.cell? ⟨gm, om + (i - 1), none⟩ = some (.int .u8 3) := by rw [hcp0, hma]; rfl
            clear hcp0 hma
            have hib : ((i : Int) == 0) = false := by rw [beq_eq_false_iff_ne]; omega
            go_wp2_with (first
              | (with_reducible refine at_bSlice ?_
                 refine wp_buildSlice1 (by rfl) 37 _ rfl 41 Tryz.underlying37 (.agg (edV edZ).toArray) 3 32 editInfo rfl (by decide) (by decide) (edV edZ) rfl rfl ?_)
              | (at_builtin
                 refine wp_appNg rfl _ _ 37 rfl W3.heap.size 41 (.agg (edV edZ).toArray) 3 32 Tryz.underlying37 editInfo rfl (by decide) (.slice A l.length c) l.length (rowsV edV l) rfl HO.out (edV edZ) 41 rfl rfl (edV_one _) (by unfold maxLen; omega) (by omega) HBR.out.size ?_
                 intro v1 w1 ho1 hbel1 hk1
                 have HB2 := Lib.hid (hbel1 _ _ (Nat.le_refl _) HBR.out)
                 have HO2 : Hid (w1.ownsRow W3.heap.size 41 3 v1 (l.length + 1) (rowsV edV (l ++ [edZ]))) := Lib.hid (by rw [rowsV_last]; exact ho1)
                 clear ho1 hbel1 hk1
                 obtain ⟨g, cg, tlE, rfl, hBg, hgb, hcg1, hcg2, htl⟩ := own_open HO2.out (by omega)
                 have HGB := Lib.hid hgb; have HTL := Lib.hid (And.intro hcg1 (And.intro hcg2 htl))
                 clear hgb hcg1 hcg2 htl
                 have HE2 := Lib.hid HE.out.fresh
                 obtain ⟨p, hp⟩ : ∃ p, l = p := ⟨_, rfl⟩
                 rw [hp] at HO2 HE2 HGB HTL hll ⊢
                 have HCW : Hid (w1.cell? ⟨gm, om + i, none⟩ = some (.int .u8 1)) := Lib.hid (((HB2.out.cell (p := ⟨gm, om + i, none⟩) hgm).trans (HBR.out.cell (p := ⟨gm, om + i, none⟩) hgm).symm).trans HCM.out)
                 clear hp HE HO HBR HC
                 have HC := HCW.out
                 obtain ⟨e, he⟩ : ∃ e, edZ = e := ⟨_, rfl⟩
                 rw [he] at HO2 HE2 HGB
                 clear he
                 have hpl : p.length ≤ 600 := by omega
                 have he1 : e.1 ≤ 600 := by have := (HE2.out.1 e (by simp)).1; omega
                 have he2 : e.2.1 ≤ 600 := by have := (HE2.out.1 e (by simp)).2.1; omega
                 have hcl2 : w1.cell? ⟨g, p.length * 3, none⟩ = some (.int .i64 (e.1 : Int)) := (HO2.out.cellAt _ (by omega)).trans (ed_get p e 0 _ rfl)
                 have hfz2 : w1.frozen? ⟨g, p.length * 3, none⟩ = false := HO2.out.frozenAt _
                 have hne1 : gm ≠ g := by omega
                 have hne2 : g ≠ gm := by omega
                 have hi1 : IntKind.i64.wrap ((p.length : Int) + 1 - 1) = (p.length : Int) := (IntWalk.i64_in _ (by omega)).trans (by omega)
                 have q0 : (0 : Int) ≤ (p.length : Int) := by omega
                 have q1 : (p.length : Int) < (p.length : Int) + 1 := by omega))
            go_roundw
            case rel =>
              exact ⟨i + 1, some ⟨g, 0, none⟩, _, p ++ [(e.1 + 1, e.2.1, e.2.2)], by omega, by go_num, by rw [HPN.out] <;> go_num, by rw [List.length_append]; rfl, Lib.hid (EdOk.next hlt HE2.out (by rw [HMI.out]; rfl) (by first | exact Nat.le_refl _ | exact Nat.le_succ _) (Nat.le_add_right _ _)), Lib.hid (HB2.out.setCell hBg _), Lib.hid (by
                have h := (HO2.out.stored (p.length * 3 + 0) (.int .i64 ((e.1 : Int) + 1))).1
                rw [ed_set p e (e.1 + 1, e.2.1, e.2.2) 0 _ (by simp [edV])] at h
                simpa using h)⟩
            case measure => (simp [intOf]) <;> omega
      · have HC : wr.cell? ⟨gm, om + i, none⟩ = some (.int .u8 2) := by rw [hcell, hmi]; rfl
        have HCM := Lib.hid HC
        have HPN := Lib.hid hpn; have HMI := Lib.hid hmi
        clear hpn hmi hcl hcell
        rcases Nat.eq_zero_or_pos i with h0 | h0
        · skip
          have hib : ((i : Int) == 0) = true := by rw [beq_iff_eq]; omega
          clear h0
          go_wp2_with (first
            | (with_reducible refine at_bSlice ?_
               refine wp_buildSlice1 (by rfl) 37 _ rfl 41 Tryz.underlying37 (.agg (edV edZ).toArray) 3 32 editInfo rfl (by decide) (by decide) (edV edZ) rfl rfl ?_)
            | (at_builtin
               refine wp_appNg rfl _ _ 37 rfl W3.heap.size 41 (.agg (edV edZ).toArray) 3 32 Tryz.underlying37 editInfo rfl (by decide) (.slice A l.length c) l.length (rowsV edV l) rfl HO.out (edV edZ) 41 rfl rfl (edV_one _) (by unfold maxLen; omega) (by omega) HBR.out.size ?_
               intro v1 w1 ho1 hbel1 hk1
               have HB2 := Lib.hid (hbel1 _ _ (Nat.le_refl _) HBR.out)
               have HO2 : Hid (w1.ownsRow W3.heap.size 41 3 v1 (l.length + 1) (rowsV edV (l ++ [edZ]))) := Lib.hid (by rw [rowsV_last]; exact ho1)
               clear ho1 hbel1 hk1
               obtain ⟨g, cg, tlE, rfl, hBg, hgb, hcg1, hcg2, htl⟩ := own_open HO2.out (by omega)
               have HGB := Lib.hid hgb; have HTL := Lib.hid (And.intro hcg1 (And.intro hcg2 htl))
               clear hgb hcg1 hcg2 htl
               have HE2 := Lib.hid HE.out.fresh
               obtain ⟨p, hp⟩ : ∃ p, l = p := ⟨_, rfl⟩
               rw [hp] at HO2 HE2 HGB HTL hll ⊢
               have HCW : Hid (w1.cell? ⟨gm, om + i, none⟩ = some (.int .u8 2)) := Lib.hid (((HB2.out.cell (p := ⟨gm, om + i, none⟩) hgm).trans (HBR.out.cell (p := ⟨gm, om + i, none⟩) hgm).symm).trans HCM.out)
               clear hp HE HO HBR HC
               have HC := HCW.out
               obtain ⟨e, he⟩ : ∃ e, edZ = e := ⟨_, rfl⟩
               rw [he] at HO2 HE2 HGB
               clear he
               have hpl : p.length ≤ 600 := by omega
               have he1 : e.1 ≤ 600 := by have := (HE2.out.1 e (by simp)).1; omega
               have he2 : e.2.1 ≤ 600 := by have := (HE2.out.1 e (by simp)).2.1; omega
               have hcl2 : w1.cell? ⟨g, p.length * 3 + 1, none⟩ = some (.int .i64 (e.2.1 : Int)) := (HO2.out.cellAt _ (by omega)).trans (ed_get p e 1 _ rfl)
               have hfz2 : w1.frozen? ⟨g, p.length * 3 + 1, none⟩ = false := HO2.out.frozenAt _
               have hne1 : gm ≠ g := by omega
               have hne2 : g ≠ gm := by omega
               have hi1 : IntKind.i64.wrap ((p.length : Int) + 1 - 1) = (p.length : Int) := (IntWalk.i64_in _ (by omega)).trans (by omega)
               have q0 : (0 : Int) ≤ (p.length : Int) := by omega
               have q1 : (p.length : Int) < (p.length : Int) + 1 := by omega))
          go_roundw
          case rel =>
            exact ⟨i + 1, some ⟨g, 0, none⟩, _, p ++ [(e.1, e.2.1 + 1, e.2.2)], by omega, by go_num, by rw [HPN.out] <;> go_num, by rw [List.length_append]; rfl, Lib.hid (EdOk.next hlt HE2.out (by rw [HMI.out]; rfl) (by first | exact Nat.le_refl _ | exact Nat.le_succ _) (Nat.le_add_right _ _)), Lib.hid (HB2.out.setCell hBg _), Lib.hid (by
              have h := (HO2.out.stored (p.length * 3 + 1) (.int .i64 ((e.2.1 : Int) + 1))).1
              rw [ed_set p e (e.1, e.2.1 + 1, e.2.2) 1 _ (by simp [edV])] at h
              simpa using h)⟩
          case measure => (simp [intOf]) <;> omega
        · skip
          have hib : ((i : Int) == 0) = false := by rw [beq_eq_false_iff_ne]; omega
          obtain ⟨p, e, rfl⟩ := HE.out.last h0
          have HE2 := Lib.hid HE.out.same
          have HB2 := HBR
          rw [show (p ++ [e]).length = p.length + 1 by simp] at HO hll ⊢
          have HO2 := HO
          obtain ⟨g, cg, tlE, hv, hBg, hgb, hcg1, hcg2, htl⟩ := own_open HO2.out (by omega)
          have HGB := Lib.hid hgb; have HTL := Lib.hid (And.intro hcg1 (And.intro hcg2 htl))
          clear hgb hcg1 hcg2 htl
          injection hv with hv1 _ hv2
          subst hv1 hv2
          clear HE HO
          obtain ⟨w1, hw1⟩ : ∃ w1, wr = w1 := ⟨_, rfl⟩
          rw [hw1] at HB2 HO2 HBR HC HGB ⊢
          skip
          clear hw1
          have hpl : p.length ≤ 600 := by omega
          have he1 : e.1 ≤ 600 := by have := (HE2.out.1 e (by simp)).1; omega
          have he2 : e.2.1 ≤ 600 := by have := (HE2.out.1 e (by simp)).2.1; omega
          have hcl2 : w1.cell? ⟨g, p.length * 3 + 1, none⟩ = some (.int .i64 (e.2.1 : Int)) := (HO2.out.cellAt _ (by omega)).trans (ed_get p e 1 _ rfl)
          have hfz2 : w1.frozen? ⟨g, p.length * 3 + 1, none⟩ = false := HO2.out.frozenAt _
          have hne1 : gm ≠ g := by omega
          have hne2 : g ≠ gm := by omega
          have hi1 : IntKind.i64.wrap ((p.length : Int) + 1 - 1) = (p.length : Int) := (IntWalk.i64_in _ (by omega)).trans (by omega)
          have q0 : (0 : Int) ≤ (p.length : Int) := by omega
          have q1 : (p.length : Int) < (p.length : Int) + 1 := by omega
          go_wp2_with fail
          go_roundw
          case rel =>
            exact ⟨i + 1, some ⟨g, 0, none⟩, _, p ++ [(e.1, e.2.1 + 1, e.2.2)], by omega, by go_num, by rw [HPN.out] <;> go_num, by rw [List.length_append]; rfl, Lib.hid (EdOk.next hlt HE2.out (by rw [HMI.out]; rfl) (by first | exact Nat.le_refl _ | exact Nat.le_succ _) (Nat.le_add_right _ _)), Lib.hid (HB2.out.setCell hBg _), Lib.hid (by
              have h := (HO2.out.stored (p.length * 3 + 1) (.int .i64 ((e.2.1 : Int) + 1))).1
              rw [ed_set p e (e.1, e.2.1 + 1, e.2.2) 1 _ (by simp [edV])] at h
              simpa using h)⟩
          case measure => (simp [intOf]) <;> omega
      · have HC : wr.cell? ⟨gm, om + i, none⟩ = some (.int .u8 3) := by rw [hcell, hmi]; rfl
        have HCM := Lib.hid HC
        have HPN := Lib.hid hpn; have HMI := Lib.hid hmi
        obtain ⟨gy, oy, hA2, hgy, hcy⟩ := HY3.out.2 (by omega)
        subst hA2
        have HCY := Lib.hid (hcy j (.int .i32 Y[j]) (by simp [i32V, hjl]))
        have HYJ := Lib.hid (HYM.out Y[j] (List.getElem_mem hjl))
        clear hpn hmi hcl hcell hcy
        rcases Nat.eq_zero_or_pos i with h0 | h0
        · skip
          have hib : ((i : Int) == 0) = true := by rw [beq_iff_eq]; omega
          clear h0
          go_upto_region 15 with (first
            | (with_reducible refine at_bSlice ?_
               refine wp_buildSlice1 (by rfl) 37 _ rfl 41 Tryz.underlying37 (.agg (edV edZ).toArray) 3 32 editInfo rfl (by decide) (by decide) (edV edZ) rfl rfl ?_
               go_frame)
            | (at_builtin
               refine wp_appNg rfl _ _ 37 rfl W3.heap.size 41 (.agg (edV edZ).toArray) 3 32 Tryz.underlying37 editInfo rfl (by decide) (.slice A l.length c) l.length (rowsV edV l) rfl HO.out (edV edZ) 41 rfl rfl (edV_one _) (by unfold maxLen; omega) (by omega) HBR.out.size ?_
               intro v1 w1 ho1 hbel1 hk1
               have HB2 := Lib.hid (hbel1 _ _ (Nat.le_refl _) HBR.out)
               have HO2 : Hid (w1.ownsRow W3.heap.size 41 3 v1 (l.length + 1) (rowsV edV (l ++ [edZ]))) := Lib.hid (by rw [rowsV_last]; exact ho1)
               clear ho1 hbel1 hk1
               obtain ⟨g, cg, tlE, rfl, hBg, hgb, hcg1, hcg2, htl⟩ := own_open HO2.out (by omega)
               have HGB := Lib.hid hgb; have HTL := Lib.hid (And.intro hcg1 (And.intro hcg2 htl))
               clear hgb hcg1 hcg2 htl
               have HE2 := Lib.hid HE.out.fresh
               obtain ⟨p, hp⟩ : ∃ p, l = p := ⟨_, rfl⟩
               rw [hp] at HO2 HE2 HGB HTL hll ⊢
               have HCW : Hid (w1.cell? ⟨gm, om + i, none⟩ = some (.int .u8 3)) := Lib.hid (((HB2.out.cell (p := ⟨gm, om + i, none⟩) hgm).trans (HBR.out.cell (p := ⟨gm, om + i, none⟩) hgm).symm).trans HCM.out)
               clear hp HE HO HBR HC
               have HC := HCW.out
               obtain ⟨e, he⟩ : ∃ e, edZ = e := ⟨_, rfl⟩
               rw [he] at HO2 HE2 HGB
               clear he
               have hpl : p.length ≤ 600 := by omega
               have he1 : e.1 ≤ 600 := by have := (HE2.out.1 e (by simp)).1; omega
               have he2 : e.2.1 ≤ 600 := by have := (HE2.out.1 e (by simp)).2.1; omega
               have hcl2 : w1.cell? ⟨g, p.length * 3 + 2, none⟩ = some (.string e.2.2) := (HO2.out.cellAt _ (by omega)).trans (ed_get p e 2 _ rfl)
               have hfz2 : w1.frozen? ⟨g, p.length * 3 + 2, none⟩ = false := HO2.out.frozenAt _
               have hne1 : gm ≠ g := by omega
               have hne2 : g ≠ gm := by omega
               have hi1 : IntKind.i64.wrap ((p.length : Int) + 1 - 1) = (p.length : Int) := (IntWalk.i64_in _ (by omega)).trans (by omega)
               have q0 : (0 : Int) ≤ (p.length : Int) := by omega
               have q1 : (p.length : Int) < (p.length : Int) + 1 := by omega))
          go_upto_region 21 with fail
          go_upto_if 107 with fail
          go_step
          go_step
          have hE := enE Tryz.func32 rfl
          obtain ⟨yv, hyv⟩ : ∃ yv, Y[j] = yv := ⟨_, rfl⟩
          rw [hyv] at HCY HYJ
          clear hyv
          have HBY := Lib.hid (fun u => rbytes18 yv u HYJ.out.1 HYJ.out.2)
          have HEL : Hid ((encL yv).length ≤ 4) := Lib.hid (by unfold encL; rw [List.length_map]; exact (encL_idV HYJ.out.1 HYJ.out.2).2)
          have HFL := Lib.hid (show ∀ u : World, Below w1.heap.size w1 u → u.cell? ⟨g, 0 + p.length * 3 + 2, none⟩ = some (.string e.2.2) ∧ u.cell? ⟨gy, oy + j * 1, none⟩ = some (.int .i32 yv) ∧ u.heap[g]? = some (.cells (rowsV edV (p ++ [e]) ++ tlE).toArray 41 (0, 0)) from fun u hu => ⟨by
            rw [Nat.zero_add]; exact (hu.cell (p := ⟨g, p.length * 3 + 2, none⟩) (cell_lt18 hcl2)).trans hcl2, by
            rw [Nat.mul_one]
            have h5 := (HB2.out.cell (p := ⟨gy, oy + j, none⟩) hgy).trans HCY.out
            exact (hu.cell (p := ⟨gy, oy + j, none⟩) (cell_lt18 h5)).trans h5, (hu.block g (cell_lt18 hcl2)).trans HGB.out⟩)
          have hsz9 : e.2.2.size ≤ 4000 := by have h1 := (HE2.out.1 e (by simp)).2.2; omega
          clear hcl2 hfz2
          refine rN 14 (fun u => Below w1.heap.size w1 u) (qD _ _) fun hF0 => ?_
          refine tw 0 (.slice (some ⟨g, 0, none⟩) (p.length + 1) cg) ?_
          go_frame
          refine tw 1 (.int .i64 (p.length : Int)) ?_
          go_frame
          refine tk 2 (.pointer (some ⟨g, 0 + p.length * 3, none⟩)) rfl (fun w' hw' => ex_indexG 37 _ _ rfl (b := g) (off := 0) (q := p.length) (n := p.length + 1) (c := cg) rfl rfl (by omega) Tryz.underlying37 (by kernel_rfl)) ?_
          go_frame
          refine tw 3 (.pointer (some ⟨g, 0 + p.length * 3 + 2, none⟩)) ?_
          go_frame
          refine tl 4 (.string e.2.2) rfl hF0 (fun w' hw' => l1 Tryz.underlying9 (HFL.out w' hw').1) ?_
          go_frame
          refine tw 5 (.slice (some ⟨gy, oy, none⟩) Y.length c2) ?_
          go_frame
          refine tw 6 (.int .i64 (j : Int)) ?_
          go_frame
          refine tk 7 (.pointer (some ⟨gy, oy + j * 1, none⟩)) rfl (fun w' hw' => ex_indexG 75 _ _ rfl (b := gy) (off := oy) (q := j) (n := Y.length) (c := c2) rfl rfl (by omega) Tryz.underlying75 (by kernel_rfl)) ?_
          go_frame
          refine tl 8 (.int .i32 yv) rfl hF0 (fun w' hw' => l1 Tryz.underlying21 (HFL.out w' hw').2.1) ?_
          go_frame
          obtain ⟨WD, hWD⟩ : ∃ z, w1.drew = z := ⟨_, rfl⟩
          have HBD : Hid (Below w1.heap.size w1 WD) := Lib.hid (by rw [← hWD]; exact qD _ _)
          rw [hWD]
          clear hWD hF0
          refine ta 9 ?_
          refine tc #[.int .i32 yv] hE rfl ?_
          refine (HBY.out WD).mono ?_
          rintro e9 W9 ⟨hw9, rfl⟩
          refine ⟨_, rfl, ?_⟩
          rw [← hw9]
          clear hw9
          go_frame
          have HBE : Hid (Below w1.heap.size w1 (WD.alloc (.cells (idV (encL yv)).toArray 5))) := Lib.hid (HBD.out.alloc HBD.out.size _)
          refine ⟨fun _ _ => HBE.out, ?_⟩
          refine ta 10 ?_
          refine wpOp_val _ rfl (by kernel_rfl) (ex_conv18 rfl rfl (conv_new18 WD (encL yv) _ rfl)) ?_
          refine ⟨fun _ h => h, ?_⟩
          go_frame
          have hrs : (⟨(encL yv).toArray⟩ : ByteArray).size ≤ 4 := by show (encL yv).toArray.size ≤ 4; rw [List.size_toArray]; exact HEL.out
          refine tk 11 (.string (e.2.2 ++ ⟨(encL yv).toArray⟩)) rfl (fun w' hw' => ex_addS18 9 _ _ _ rfl rfl rfl (by omega)) ?_
          go_frame
          refine tk 12 (.pointer (some ⟨g, 0 + p.length * 3, none⟩)) rfl (fun w' hw' => ex_indexG 37 _ _ rfl (b := g) (off := 0) (q := p.length) (n := p.length + 1) (c := cg) rfl rfl (by omega) Tryz.underlying37 (by kernel_rfl)) ?_
          go_frame
          refine tw 13 (.pointer (some ⟨g, 0 + p.length * 3 + 2, none⟩)) ?_
          go_frame
          refine ta 14 ?_
          have hpre : (rowsV edV p ++ [Value.int .i64 (e.1 : Int), Value.int .i64 (e.2.1 : Int)]).length = 0 + p.length * 3 + 2 := by rw [List.length_append, edRow_length]; simp
          refine wpOp_storeM _ rfl (by kernel_rfl) 9 _ _ rfl g (0 + p.length * 3 + 2) (rowsV edV p ++ [Value.int .i64 (e.1 : Int), Value.int .i64 (e.2.1 : Int)]) [.string e.2.2] tlE [.string (e.2.2 ++ ⟨(encL yv).toArray⟩)] 41 (.string (e.2.2 ++ ⟨(encL yv).toArray⟩)) rfl hpre.symm rfl rfl (by rw [(HFL.out _ HBE.out).2.2]; simp [rowsV_last, edV]) rfl (by kernel_rfl) (by intro u hu; rw [List.mem_singleton.1 hu]; rfl) ?_
          intro WC hbC hyC hsC
          have HBC := Lib.hid hbC; have HYC := Lib.hid hyC
          clear hbC hyC hsC
          refine ⟨fun h => absurd h (by decide), ?_⟩
          go_frame
          refine wpAnyN_done (by kernel_rfl) ?_ _
          go_wp2_with fail
          go_roundw
          case rel =>
            have hbw : Below W3.heap.size W3 WC := HB2.out.trans ((HBE.out.mono HB2.out.size).trans (HBC.out.below (B := W3.heap.size) (Nat.le_trans HB2.out.size HBE.out.size) (fun k hk e => by have e2 : k = g := e; omega)))
            have hos : WC.ownsRow W3.heap.size 41 3 (.slice (some ⟨g, 0, none⟩) (p.length + 1) cg) (p.length + 1) (rowsV edV (p ++ [(e.1, e.2.1, e.2.2 ++ ⟨(encL yv).toArray⟩)])) :=
              own_shut (tail := tlE) (by rw [edRow_length, List.length_append]; rfl) hBg (by rw [HYC.out, rowsV_last]; simp [edV]) HTL.out.1 HTL.out.2.1 HTL.out.2.2
            exact ⟨i + 1, some ⟨g, 0, none⟩, _, p ++ [(e.1, e.2.1, e.2.2 ++ ⟨(encL yv).toArray⟩)], by omega, by go_num, by rw [HPN.out] <;> go_num, by rw [List.length_append]; rfl, Lib.hid (EdOk.next hlt HE2.out (by rw [HMI.out]; rfl) (Nat.le_succ _) (by show (e.2.2 ++ (⟨(encL yv).toArray⟩ : ByteArray)).size ≤ e.2.2.size + 4; rw [ByteArray.size_append]; omega)), Lib.hid hbw, Lib.hid (by rw [List.length_append]; exact hos)⟩
          case measure => (simp [intOf]) <;> omega
        · skip
          have hib : ((i : Int) == 0) = false := by rw [beq_eq_false_iff_ne]; omega
          obtain ⟨p, e, rfl⟩ := HE.out.last h0
          have HE2 := Lib.hid HE.out.same
          have HB2 := HBR
          rw [show (p ++ [e]).length = p.length + 1 by simp] at HO hll ⊢
          have HO2 := HO
          obtain ⟨g, cg, tlE, hv, hBg, hgb, hcg1, hcg2, htl⟩ := own_open HO2.out (by omega)
          have HGB := Lib.hid hgb; have HTL := Lib.hid (And.intro hcg1 (And.intro hcg2 htl))
          clear hgb hcg1 hcg2 htl
          injection hv with hv1 _ hv2
          subst hv1 hv2
          clear HE HO
          obtain ⟨w1, hw1⟩ : ∃ w1, wr = w1 := ⟨_, rfl⟩
          rw [hw1] at HB2 HO2 HBR HC HGB ⊢
          skip
          clear hw1
          have hpl : p.length ≤ 600 := by omega
          have he1 : e.1 ≤ 600 := by have := (HE2.out.1 e (by simp)).1; omega
          have he2 : e.2.1 ≤ 600 := by have := (HE2.out.1 e (by simp)).2.1; omega
          have hcl2 : w1.cell? ⟨g, p.length * 3 + 2, none⟩ = some (.string e.2.2) := (HO2.out.cellAt _ (by omega)).trans (ed_get p e 2 _ rfl)
          have hfz2 : w1.frozen? ⟨g, p.length * 3 + 2, none⟩ = false := HO2.out.frozenAt _
          have hne1 : gm ≠ g := by omega
          have hne2 : g ≠ gm := by omega
          have hi1 : IntKind.i64.wrap ((p.length : Int) + 1 - 1) = (p.length : Int) := (IntWalk.i64_in _ (by omega)).trans (by omega)
          have q0 : (0 : Int) ≤ (p.length : Int) := by omega
          have q1 : (p.length : Int) < (p.length : Int) + 1 := by omega
          go_upto_region 21 with fail
          go_upto_if 107 with fail
          go_step
          go_step
          have hE := enE Tryz.func32 rfl
          obtain ⟨yv, hyv⟩ : ∃ yv, Y[j] = yv := ⟨_, rfl⟩
          rw [hyv] at HCY HYJ
          clear hyv
          have HBY := Lib.hid (fun u => rbytes18 yv u HYJ.out.1 HYJ.out.2)
          have HEL : Hid ((encL yv).length ≤ 4) := Lib.hid (by unfold encL; rw [List.length_map]; exact (encL_idV HYJ.out.1 HYJ.out.2).2)
          have HFL := Lib.hid (show ∀ u : World, Below w1.heap.size w1 u → u.cell? ⟨g, 0 + p.length * 3 + 2, none⟩ = some (.string e.2.2) ∧ u.cell? ⟨gy, oy + j * 1, none⟩ = some (.int .i32 yv) ∧ u.heap[g]? = some (.cells (rowsV edV (p ++ [e]) ++ tlE).toArray 41 (0, 0)) from fun u hu => ⟨by
            rw [Nat.zero_add]; exact (hu.cell (p := ⟨g, p.length * 3 + 2, none⟩) (cell_lt18 hcl2)).trans hcl2, by
            rw [Nat.mul_one]
            have h5 := (HB2.out.cell (p := ⟨gy, oy + j, none⟩) hgy).trans HCY.out
            exact (hu.cell (p := ⟨gy, oy + j, none⟩) (cell_lt18 h5)).trans h5, (hu.block g (cell_lt18 hcl2)).trans HGB.out⟩)
          have hsz9 : e.2.2.size ≤ 4000 := by have h1 := (HE2.out.1 e (by simp)).2.2; omega
          clear hcl2 hfz2
          refine rN 14 (fun u => Below w1.heap.size w1 u) (qD _ _) fun hF0 => ?_
          refine tw 0 (.slice (some ⟨g, 0, none⟩) (p.length + 1) c) ?_
          go_frame
          refine tw 1 (.int .i64 (p.length : Int)) ?_
          go_frame
          refine tk 2 (.pointer (some ⟨g, 0 + p.length * 3, none⟩)) rfl (fun w' hw' => ex_indexG 37 _ _ rfl (b := g) (off := 0) (q := p.length) (n := p.length + 1) (c := c) rfl rfl (by omega) Tryz.underlying37 (by kernel_rfl)) ?_
          go_frame
          refine tw 3 (.pointer (some ⟨g, 0 + p.length * 3 + 2, none⟩)) ?_
          go_frame
          refine tl 4 (.string e.2.2) rfl hF0 (fun w' hw' => l1 Tryz.underlying9 (HFL.out w' hw').1) ?_
          go_frame
          refine tw 5 (.slice (some ⟨gy, oy, none⟩) Y.length c2) ?_
          go_frame
          refine tw 6 (.int .i64 (j : Int)) ?_
          go_frame
          refine tk 7 (.pointer (some ⟨gy, oy + j * 1, none⟩)) rfl (fun w' hw' => ex_indexG 75 _ _ rfl (b := gy) (off := oy) (q := j) (n := Y.length) (c := c2) rfl rfl (by omega) Tryz.underlying75 (by kernel_rfl)) ?_
          go_frame
          refine tl 8 (.int .i32 yv) rfl hF0 (fun w' hw' => l1 Tryz.underlying21 (HFL.out w' hw').2.1) ?_
          go_frame
          obtain ⟨WD, hWD⟩ : ∃ z, w1.drew = z := ⟨_, rfl⟩
          have HBD : Hid (Below w1.heap.size w1 WD) := Lib.hid (by rw [← hWD]; exact qD _ _)
          rw [hWD]
          clear hWD hF0
          refine ta 9 ?_
          refine tc #[.int .i32 yv] hE rfl ?_
          refine (HBY.out WD).mono ?_
          rintro e9 W9 ⟨hw9, rfl⟩
          refine ⟨_, rfl, ?_⟩
          rw [← hw9]
          clear hw9
          go_frame
          have HBE : Hid (Below w1.heap.size w1 (WD.alloc (.cells (idV (encL yv)).toArray 5))) := Lib.hid (HBD.out.alloc HBD.out.size _)
          refine ⟨fun _ _ => HBE.out, ?_⟩
          refine ta 10 ?_
          refine wpOp_val _ rfl (by kernel_rfl) (ex_conv18 rfl rfl (conv_new18 WD (encL yv) _ rfl)) ?_
          refine ⟨fun _ h => h, ?_⟩
          go_frame
          have hrs : (⟨(encL yv).toArray⟩ : ByteArray).size ≤ 4 := by show (encL yv).toArray.size ≤ 4; rw [List.size_toArray]; exact HEL.out
          refine tk 11 (.string (e.2.2 ++ ⟨(encL yv).toArray⟩)) rfl (fun w' hw' => ex_addS18 9 _ _ _ rfl rfl rfl (by omega)) ?_
          go_frame
          refine tk 12 (.pointer (some ⟨g, 0 + p.length * 3, none⟩)) rfl (fun w' hw' => ex_indexG 37 _ _ rfl (b := g) (off := 0) (q := p.length) (n := p.length + 1) (c := c) rfl rfl (by omega) Tryz.underlying37 (by kernel_rfl)) ?_
          go_frame
          refine tw 13 (.pointer (some ⟨g, 0 + p.length * 3 + 2, none⟩)) ?_
          go_frame
          refine ta 14 ?_
          have hpre : (rowsV edV p ++ [Value.int .i64 (e.1 : Int), Value.int .i64 (e.2.1 : Int)]).length = 0 + p.length * 3 + 2 := by rw [List.length_append, edRow_length]; simp
          refine wpOp_storeM _ rfl (by kernel_rfl) 9 _ _ rfl g (0 + p.length * 3 + 2) (rowsV edV p ++ [Value.int .i64 (e.1 : Int), Value.int .i64 (e.2.1 : Int)]) [.string e.2.2] tlE [.string (e.2.2 ++ ⟨(encL yv).toArray⟩)] 41 (.string (e.2.2 ++ ⟨(encL yv).toArray⟩)) rfl hpre.symm rfl rfl (by rw [(HFL.out _ HBE.out).2.2]; simp [rowsV_last, edV]) rfl (by kernel_rfl) (by intro u hu; rw [List.mem_singleton.1 hu]; rfl) ?_
          intro WC hbC hyC hsC
          have HBC := Lib.hid hbC; have HYC := Lib.hid hyC
          clear hbC hyC hsC
          refine ⟨fun h => absurd h (by decide), ?_⟩
          go_frame
          refine wpAnyN_done (by kernel_rfl) ?_ _
          go_wp2_with fail
          go_roundw
          case rel =>
            have hbw : Below W3.heap.size W3 WC := HB2.out.trans ((HBE.out.mono HB2.out.size).trans (HBC.out.below (B := W3.heap.size) (Nat.le_trans HB2.out.size HBE.out.size) (fun k hk e => by have e2 : k = g := e; omega)))
            have hos : WC.ownsRow W3.heap.size 41 3 (.slice (some ⟨g, 0, none⟩) (p.length + 1) c) (p.length + 1) (rowsV edV (p ++ [(e.1, e.2.1, e.2.2 ++ ⟨(encL yv).toArray⟩)])) :=
              own_shut (tail := tlE) (by rw [edRow_length, List.length_append]; rfl) hBg (by rw [HYC.out, rowsV_last]; simp [edV]) HTL.out.1 HTL.out.2.1 HTL.out.2.2
            exact ⟨i + 1, some ⟨g, 0, none⟩, _, p ++ [(e.1, e.2.1, e.2.2 ++ ⟨(encL yv).toArray⟩)], by omega, by go_num, by rw [HPN.out] <;> go_num, by rw [List.length_append]; rfl, Lib.hid (EdOk.next hlt HE2.out (by rw [HMI.out]; rfl) (Nat.le_succ _) (by show (e.2.2 ++ (⟨(encL yv).toArray⟩ : ByteArray)).size ≤ e.2.2.size + 4; rw [ByteArray.size_append]; omega)), Lib.hid hbw, Lib.hid (by rw [List.length_append]; exact hos)⟩
          case measure => (simp [intOf]) <;> omega
    · have hie : i = M.length := by omega
      have HIE := Lib.hid hie
      have HBF : Hid (Below w.heap.size w wr) := Lib.hid (HBW.out.trans (HBR.out.mono HBW.out.size))
      have HLL : Hid (l.length ≤ 1000) := Lib.hid (by have := HE.out.2.2.2; omega)
      have HKE : Hid (keepE l = onesN (movesS (intsN x) (intsN y))) := Lib.hid (by rw [HMD.out, HE.out.2.2.1, HIE.out, List.take_length])
      have HOF := Lib.hid (own_lower HO.out HBW.out.size)
      clear hie
      go_wp2_with fail
      go_ret2
      exact ⟨HBF.out, .inl ⟨x, y, l, A, c, HXY.out.1, HXY.out.2, rfl, HOF.out, HKE.out, HLL.out⟩⟩
theorem rdiff_any (a b : ByteArray) (w : World) (ha : a.size ≤ 300) (hb : b.size ≤ 300) : Calls Tryz.prog 18 #[.string a, .string b] w (DiffGives a b w) := by
  cases hx : runesOf a with
  | none => exact rdiff_bad a b w ha hb (.inl hx)
  | some x => cases hy : runesOf b with
    | none => exact rdiff_bad a b w ha hb (.inr hy)
    | some y => exact rdiff_good a b x y w ha hb hx hy
end Go.Proofs.YtmlhijlcefogmaaGreatDoor
