/-
  The sum of bytes, so that it can be worked out. Conditions: none.
  What law 18's awake gives, worked out. Condition: the tables of package sha.
  The floats of small parts, worked out: wholes from 1 to 345. No conditions; no program.
  The floats of small parts, worked out: wholes from 346 to 490. No conditions; no program.
  The floats of small parts, worked out: wholes from 491 to 600. No conditions; no program.
  The floats of all small parts. No conditions; no program.
  ScanEven's walk. Conditions: the tables of package sha.
-/
import Derived.Test.YtmlhijlcefogmaaGreatDoorMerged21
import Derived.Test.YtmlhijlcefogmaaGreatDoorEvSum
import Derived.Lib.LaidTab
import Derived.Test.YtmlhijlcefogmaaGreatDoorMerged18
set_option linter.unusedVariables false
set_option linter.unusedSimpArgs false
set_option maxHeartbeats 4000000
set_option maxRecDepth 100000
namespace Go.Proofs.YtmlhijlcefogmaaGreatDoor
open Go.RowKit

/-- The next word, from those before (the last one first). -/
def nextW (l : List UInt8) (a t : Nat) (w : List Int) : Int :=
  if t < 16 then wordS (byteAt l (a + 4 * t)) (byteAt l (a + 4 * t + 1)) (byteAt l (a + 4 * t + 2)) (byteAt l (a + 4 * t + 3))
  else addS (addS (addS (xorS (xorS (rotS 17 (w.getD 1 0)) (rotS 19 (w.getD 1 0))) (w.getD 1 0 / 1024)) (w.getD 6 0)) (xorS (xorS (rotS 7 (w.getD 14 0)) (rotS 18 (w.getD 14 0))) (w.getD 14 0 / 8))) (w.getD 15 0)
def nextR (t : Nat) (x : Int) (p : St8 × List Int) : St8 × List Int := (stepS p.1 (keyS t) x, x :: p.2)
def runL (l : List UInt8) (a : Nat) (s : St8) : Nat → St8 × List Int
  | 0 => (s, [])
  | t + 1 => nextR t (nextW l a t (runL l a s t).2) (runL l a s t)
theorem runL_words (l : List UInt8) (a : Nat) (s : St8) : ∀ n, (∀ i, i < n → (runL l a s n).2.getD (n - 1 - i) 0 = schS l a i)
  | 0 => fun i h => by omega
  | n + 1 => fun i h => by
    have ih := runL_words l a s n
    have hn : nextW l a n (runL l a s n).2 = schS l a n := by
      unfold nextW
      by_cases h16 : n < 16
      · rw [if_pos h16, schS_lo h16]
      · rw [if_neg h16, schS_hi h16, ← ih (n - 2) (by omega), ← ih (n - 7) (by omega), ← ih (n - 15) (by omega), ← ih (n - 16) (by omega), show n - 1 - (n - 2) = 1 by omega, show n - 1 - (n - 7) = 6 by omega, show n - 1 - (n - 15) = 14 by omega, show n - 1 - (n - 16) = 15 by omega]
    unfold runL nextR
    rcases (by omega : i = n ∨ i < n) with rfl | hi
    · rw [show i + 1 - 1 - i = 0 by omega]; exact hn
    · rw [show n + 1 - 1 - i = (n - 1 - i) + 1 by omega, List.getD_cons_succ]; exact ih i hi
theorem runL_run (l : List UInt8) (a : Nat) (s : St8) : ∀ n, (runL l a s n).1 = runS l a s n
  | 0 => rfl
  | n + 1 => by
    have hn : nextW l a n (runL l a s n).2 = schS l a n := by
      have h := runL_words l a s (n + 1) n (by omega)
      rw [show n + 1 - 1 - n = 0 by omega] at h
      exact h
    unfold runL nextR runS
    dsimp only
    rw [hn, runL_run l a s n]
/-- The sum of what fits into one block. -/
theorem sha_one {l : List UInt8} (h : l.length < 56) : shaS l = outS (sumS (runL (padS l) 0 firstS 64).1 firstS) := by
  unfold shaS
  have h1 : (padS l).length / 64 = 1 := by rw [padS_length]; unfold zerosN; omega
  rw [h1, runL_run]
  rfl
end Go.Proofs.YtmlhijlcefogmaaGreatDoor
namespace Go.Proofs.YtmlhijlcefogmaaGreatDoor
namespace Ev
open Go.RowKit

noncomputable section
def tab18 : SumTab := [([67, 1, 0, 3, 65, 110, 110, 2, 3, 1, 97, 1, 0, 0, 0, 0, 5, 104, 101, 108, 108, 111], [217, 35, 125, 22, 221, 61, 85, 38, 40, 83, 100, 184, 192, 253, 104, 136, 152, 197, 1, 201, 222, 79, 22, 230, 99, 133, 133, 169, 14, 110, 238, 22])]
def rowN (l : List Nat) : T V := List.rec (motive := fun _ => Nat → T V → T V) (fun _ t => t) (fun x _ ih i t => ih (i + 1) (t.put i (some (.i .u32 (.ofNat x))))) l 0 .nil
def heap0 (t1 t2 : TypeId) : T O := ((T.nil : T O).put 2 (some (.row (rowN firstN) 8 t1 ⟨8, true, false⟩ true))).put 3 (some (.row (rowN wordsN) 64 t2 ⟨64, true, false⟩ true))
def ans18 : Option (V × T O × Nat) → Bool := fun r => match r with | some (.b true, _, n) => Nat.ble n 100000 | _ => false
end
theorem tab18_ok : TabOk tab18 := by
  intro p hp
  rcases List.mem_cons.1 hp with rfl | hp
  · refine ⟨?_, by decide +kernel, by decide +kernel, by decide +kernel⟩
    rw [sha_one (by decide)]
    decide +kernel
  · cases hp
theorem run18 (t1 t2 : TypeId) : ans18 (callF Tryz.prog (smT tab18) (dwF Tryz.prog (smT tab18) 100000 1000000 30) 100000 1000000 8 [] (heap0 t1 t2) 1024) = true := by kernel_rfl
theorem ans18_ok {r : Option (V × T O × Nat)} (h : ans18 r = true) : ∃ H n, r = some (.b true, H, n) ∧ n ≤ 100000 := by
  unfold ans18 at h
  split at h
  · exact ⟨_, _, rfl, Nat.le_of_ble_eq_true h⟩
  · cases h
theorem rowN_at (l : List Nat) : ∀ (i : Nat) (t : T V) (j : Nat), (List.rec (motive := fun _ => Nat → T V → T V) (fun _ t => t) (fun x _ ih i t => ih (i + 1) (t.put i (some (.i .u32 (.ofNat x))))) l i t : T V).at j = if i ≤ j ∧ j < i + l.length then (l[j - i]?).map (fun x => .i .u32 (.ofNat x)) else t.at j := by
  induction l with
  | nil => intro i t j; rw [if_neg (by simp only [List.length_nil]; omega)]
  | cons x l ih =>
    intro i t j
    show (List.rec (motive := fun _ => Nat → T V → T V) (fun _ t => t) (fun x _ ih i t => ih (i + 1) (t.put i (some (.i .u32 (.ofNat x))))) l (i + 1) (t.put i (some (.i .u32 (.ofNat x)))) : T V).at j = _
    rw [ih, T.at_put]
    by_cases h1 : j = i
    · subst h1
      rw [if_neg (by omega), if_pos rfl, if_pos ⟨Nat.le_refl _, by simp⟩]
      simp
    · rw [if_neg h1]
      by_cases h2 : i + 1 ≤ j ∧ j < i + 1 + l.length
      · rw [if_pos h2, if_pos ⟨by omega, by simp only [List.length_cons]; omega⟩, show j - i = (j - (i + 1)) + 1 by omega, List.getElem?_cons_succ]
      · rw [if_neg h2, if_neg (by simp only [List.length_cons]; omega)]
theorem tab_or {S : Nat → Prop} {μ : Nat → Loc} {w : World} {g : Nat} {zs : List Int} {l : List Nat} {el : TypeId} (hw : ∃ fr, w.heap[g]? = some (.cells (zs.map fun z => Value.int .u32 z).toArray el fr)) (hl : zs.map Int.toNat = l) (hz : ∀ z ∈ zs, 0 ≤ z) (n : Nat) (hn : zs.length = n) :
    ∃ x, w.heap[g]? = some x ∧ OR S μ ⟨g, 0, n⟩ x (.row (rowN l) n el ⟨n, true, false⟩ true) := by
  obtain ⟨fr, hx⟩ := hw
  refine ⟨_, hx, _, fr, rfl, by simp [hn], by simp, ⟨(fun h => (by cases h)), (fun h => (by cases h)), (fun o h1 h2 => (by simp at h1 h2; omega))⟩, fun i v hv => ?_⟩
  have h := rowN_at l 0 .nil i
  unfold rowN at hv
  rw [hv] at h
  have hll : l.length = n := by rw [← hl, List.length_map, hn]
  by_cases hi : i < n
  · rw [if_pos ⟨Nat.zero_le _, by omega⟩, Nat.sub_zero, ← hl, List.getElem?_map, List.getElem?_eq_getElem (by omega)] at h
    simp only [Option.map_some, Option.some.injEq] at h
    subst h
    refine ⟨hi, .int .u32 zs[i], by simp [hn ▸ hi], rfl, ?_⟩
    have h0 := hz zs[i] (List.getElem_mem _)
    have e : Int.ofNat zs[i].toNat = zs[i] := Int.toNat_of_nonneg h0
    rw [e]
    exact .i _ _
  · rw [if_neg (by omega), T.at_nil] at h
    cases h
theorem var_cells {P : Program} {w : World} {name : String} {g : Nat} {zs : List Int} (hg : P.globalNamed name = some g) (h : Lib.TabIs P w name .u32 zs) : ∃ T fr, w.heap[g]? = some (.cells (zs.map fun z => Value.int .u32 z).toArray T fr) := by
  unfold Lib.TabIs World.var? at h
  rw [hg] at h
  simp only [Option.bind_some] at h
  split at h
  · rename_i cs T fr hx
    injection h with h
    subst h
    exact ⟨T, fr, hx⟩
  · cases h
theorem heap0_at {t1 t2 : TypeId} (b : Nat) (o : O) (h : (heap0 t1 t2).at b = some o) : b = 2 ∧ o = .row (rowN firstN) 8 t1 ⟨8, true, false⟩ true ∨ b = 3 ∧ o = .row (rowN wordsN) 64 t2 ⟨64, true, false⟩ true := by
  unfold heap0 at h
  rw [T.at_put, T.at_put] at h
  split at h
  · injection h with h; exact .inr ⟨by assumption, h.symm⟩
  · split at h
    · injection h with h; exact .inl ⟨by assumption, h.symm⟩
    · rw [T.at_nil] at h; cases h
def μ0 (b : Nat) : Loc := ⟨b, 0, if b = 2 then 8 else 64⟩
theorem start_ok {w : World} (hF : Lib.TabIs Tryz.prog w "variorum/sha.first" .u32 (st8 firstS)) (hK : Lib.TabIs Tryz.prog w "variorum/sha.words" .u32 keysS) : ∃ t1 t2, RH 1024 (fun b => b < 1024) μ0 (heap0 t1 t2).at w := by
  obtain ⟨t1, hF⟩ := var_cells (g := 2) (by kernel_rfl) hF
  obtain ⟨t2, hK⟩ := var_cells (g := 3) (by kernel_rfl) hK
  refine ⟨t1, t2, ?_⟩
  refine ⟨fun b o h => ?_, fun b b' o o' _ _ h => h, fun g hg => ⟨hg, rfl, rfl⟩⟩
  rcases heap0_at b o h with ⟨rfl, rfl⟩ | ⟨rfl, rfl⟩
  · exact ⟨by decide, tab_or hF rfl (by decide +kernel) 8 rfl⟩
  · exact ⟨by decide, tab_or hK rfl (by decide +kernel) 64 rfl⟩
theorem awake18_any (w : World) (hF : Lib.TabIs Tryz.prog w "variorum/sha.first" .u32 (st8 firstS)) (hK : Lib.TabIs Tryz.prog w "variorum/sha.words" .u32 keysS) :
    Calls Tryz.prog 8 #[] w fun e w' => e = .returned (.bool true) ∧ Below w.heap.size w w' := by
  obtain ⟨t1, t2, hst⟩ := start_ok hF hK
  obtain ⟨H', n', he, hn⟩ := ans18_ok (run18 t1 t2)
  obtain ⟨m, hm⟩ := callF_ok he
  have hsm := smT_ok tab18_ok
  refine (callA_ok hsm (dwF_ok (by kernel_rfl) hsm 30) hm (S := fun b => b < 1024) (μ := μ0) (w := w) (xs := #[]) .nil hst (fun b h1 _ h2 => by omega)).mono fun e w' ⟨x, hx, S', μ', hv, _, hg⟩ => ?_
  cases hv
  refine ⟨hx, hg.os, hg.tape, hg.output, hg.size, fun k hk => hg.still k hk fun b o hb _ => ?_⟩
  rcases heap0_at b o hb with ⟨_, rfl⟩ | ⟨_, rfl⟩ <;> rfl
end Ev
end Go.Proofs.YtmlhijlcefogmaaGreatDoor
namespace Go.Proofs.YtmlhijlcefogmaaGreatDoor
theorem okTA0 : okT 1 171 = true := by kernel_rfl
theorem okTA1 : okT 172 71 = true := by kernel_rfl
theorem okTA2 : okT 243 55 = true := by kernel_rfl
theorem okTA3 : okT 298 48 = true := by kernel_rfl
end Go.Proofs.YtmlhijlcefogmaaGreatDoor
namespace Go.Proofs.YtmlhijlcefogmaaGreatDoor
theorem okTB0 : okT 346 40 = true := by kernel_rfl
theorem okTB1 : okT 386 37 = true := by kernel_rfl
theorem okTB2 : okT 423 35 = true := by kernel_rfl
theorem okTB3 : okT 458 33 = true := by kernel_rfl
end Go.Proofs.YtmlhijlcefogmaaGreatDoor
namespace Go.Proofs.YtmlhijlcefogmaaGreatDoor
theorem okTC0 : okT 491 28 = true := by kernel_rfl
theorem okTC1 : okT 519 28 = true := by kernel_rfl
theorem okTC2 : okT 547 27 = true := by kernel_rfl
theorem okTC3 : okT 574 27 = true := by kernel_rfl
end Go.Proofs.YtmlhijlcefogmaaGreatDoor
namespace Go.Proofs.YtmlhijlcefogmaaGreatDoor
theorem okQ_all : ∀ t, 1 ≤ t → t ≤ 600 → ∀ k, 2 * k ≤ t → okQ k t = true := by
  intro t h1 h2 k hk
  rcases Nat.lt_or_ge t (1 + 171) with h | h
  · exact okT_ok okTA0 t (by omega) h k hk
  rcases Nat.lt_or_ge t (172 + 71) with h | h
  · exact okT_ok okTA1 t (by omega) h k hk
  rcases Nat.lt_or_ge t (243 + 55) with h | h
  · exact okT_ok okTA2 t (by omega) h k hk
  rcases Nat.lt_or_ge t (298 + 48) with h | h
  · exact okT_ok okTA3 t (by omega) h k hk
  rcases Nat.lt_or_ge t (346 + 40) with h | h
  · exact okT_ok okTB0 t (by omega) h k hk
  rcases Nat.lt_or_ge t (386 + 37) with h | h
  · exact okT_ok okTB1 t (by omega) h k hk
  rcases Nat.lt_or_ge t (423 + 35) with h | h
  · exact okT_ok okTB2 t (by omega) h k hk
  rcases Nat.lt_or_ge t (458 + 33) with h | h
  · exact okT_ok okTB3 t (by omega) h k hk
  rcases Nat.lt_or_ge t (491 + 28) with h | h
  · exact okT_ok okTC0 t (by omega) h k hk
  rcases Nat.lt_or_ge t (519 + 28) with h | h
  · exact okT_ok okTC1 t (by omega) h k hk
  rcases Nat.lt_or_ge t (547 + 27) with h | h
  · exact okT_ok okTC2 t (by omega) h k hk
  exact okT_ok okTC3 t (by omega) (by omega) k hk
end Go.Proofs.YtmlhijlcefogmaaGreatDoor
namespace Go.Proofs.YtmlhijlcefogmaaGreatDoor.scanEven
open Go.RowKit Go.Maps Go.Shelf

theorem tab_keep {P : Program} {w w' : World} {name : String} {k : IntKind} {zs : List Int} {g : Nat} (hg : P.globalNamed name = some g) (h : Lib.TabIs P w name k zs) (hb : Below w.heap.size w w') : Lib.TabIs P w' name k zs := by
  unfold Lib.TabIs World.var? at h ⊢
  rw [hg] at h ⊢
  simp only [Option.bind_some] at h ⊢
  split at h
  · rename_i cs T fr hx
    rw [hb.block g (Array.getElem?_eq_some_iff.1 hx).1, hx]
    exact h
  · cases h
theorem walk (a b : ByteArray) (w : World) (ha : a.size ≤ maxLen) (hb : b.size ≤ maxLen) (hF : Lib.TabIs Tryz.prog w "variorum/sha.first" .u32 (st8 firstS)) (hK : Lib.TabIs Tryz.prog w "variorum/sha.words" .u32 keysS) :
    Calls Tryz.prog 4 #[.string a, .string b] w fun e w' => e = .returned (.bool true) ∧ Below w.heap.size w w' := by
  have hAW : ∀ u, Below w.heap.size w u → Calls Tryz.prog 8 #[] u fun e w' => e = .returned (.bool true) ∧ Below w.heap.size w w' := fun u hu =>
    (Ev.awake18_any u (tab_keep (g := 2) (by kernel_rfl) hF hu) (tab_keep (g := 3) (by kernel_rfl) hK hu)).mono fun e w' ⟨h1, h2⟩ => ⟨h1, hu.trans (h2.mono hu.size)⟩
  have HAW := Lib.hid hAW
  clear hF hK hAW
  by_cases h300 : a.size ≤ 300 ∧ b.size ≤ 300
  · obtain ⟨ha3, hb3⟩ := h300
    have n1 : ¬ (300 : Int) < (a.size : Int) := by omega
    have n2 : ¬ (300 : Int) < (b.size : Int) := by omega
    have HL1 := Lib.hid (fun u => like_any a b u ha3 hb3); have HL2 := Lib.hid (fun u => like_any b a u hb3 ha3); have HL3 := Lib.hid (fun u => like_any a a u ha3 ha3)
    have HCN := Lib.hid (fun u => count_er a u ha)
    have HA3 := Lib.hid ha3; have HB3 := Lib.hid hb3
    clear ha hb ha3 hb3
    go_enter Tryz.func4, Tryz.ntmps4
    go_upto_region 4 with (go_at_call 6; first
        | (with_reducible refine (HL1.out _).mono ?_; rintro e W1 ⟨hb1, f1, rfl, hf1⟩; have HB1 := Lib.hid hb1; have HF1 := Lib.hid hf1; clear hb1 hf1)
        | (with_reducible refine (HL2.out _).mono ?_; rintro e W2 ⟨hb2, f2, rfl, hf2⟩; have HB2 := Lib.hid hb2; have HF2 := Lib.hid hf2; clear hb2 hf2)
        | (with_reducible refine (HL3.out _).mono ?_; rintro e W3 ⟨hb3, f3, rfl, hf3⟩; have HB3' := Lib.hid hb3; have HF3 := Lib.hid hf3; clear hb3 hf3))
    go_upto_region 5 with (go_at_call 9; refine (HCN.out _).mono ?_; rintro e W4 ⟨hb4, er, rfl, her⟩; have HB4 := Lib.hid hb4; have HER := Lib.hid her; clear hb4 her)
    have HBW : Hid (Below w.heap.size w W4) := Lib.hid (HB1.out.trans ((HB2.out.trans ((HB3'.out.trans (HB4.out.mono HB3'.out.size)).mono HB2.out.size)).mono HB1.out.size))
    have HO := Lib.hid (fun u => order_any f1 f2 u (like_sym HF1.out HF2.out))
    have HAU := Lib.hid (HAW.out W4 HBW.out)
    have hone : (FloatKind.f64.format.order 4607182418800017408 4607182418800017408 == some .eq) = true := by decide +kernel
    have HSELF := Lib.hid (like_self okQ_all HA3.out HF3.out)
    clear HL1 HL2 HL3 HCN HB1 HB2 HB3' HB4 HAW
    by_cases hn1 : Ev.nanB f1
    · have HN1 := Lib.hid (fun u => isNaN_yes f1 u hn1)
      clear hn1 HF1 HF2
      rcases HSELF.out with ⟨hn3, hc0⟩ | ⟨hf3, hcp, htx⟩
      · have HN3 := Lib.hid (fun u => isNaN_yes f3 u hn3)
        have hcz : (((cntN a : Nat) : Int) == 0) = true := by rw [hc0]; rfl
        clear hn3 hc0 HSELF HF3
        by_cases her0 : er = 0
        · have herb : (er != 0) = false := by rw [her0]; rfl
          clear her0
          go_wp2_with (first
          | (go_at_call 10; refine (HO.out _).mono ?_; rintro e W5 ⟨rfl, rfl⟩)
          | (go_at_call 8; refine HAU.out.mono ?_; rintro e W7 ⟨rfl, hb7⟩; have HB7 := Lib.hid hb7; clear hb7)
          | (go_at_call 11; first
              | (with_reducible refine (HN1.out _).mono ?_; rintro e W6 ⟨rfl, rfl⟩)
              | (with_reducible refine (HN3.out _).mono ?_; rintro e W6 ⟨rfl, rfl⟩)))
          go_ret
          exact ⟨rfl, HB7.out⟩
        · have herb : (er != 0) = true := by rw [bne_iff_ne]; exact her0
          clear her0
          go_wp2_with (first
          | (go_at_call 10; refine (HO.out _).mono ?_; rintro e W5 ⟨rfl, rfl⟩)
          | (go_at_call 8; refine HAU.out.mono ?_; rintro e W7 ⟨rfl, hb7⟩; have HB7 := Lib.hid hb7; clear hb7)
          | (go_at_call 11; first
              | (with_reducible refine (HN1.out _).mono ?_; rintro e W6 ⟨rfl, rfl⟩)
              | (with_reducible refine (HN3.out _).mono ?_; rintro e W6 ⟨rfl, rfl⟩)))
          go_ret
          exact ⟨rfl, HB7.out⟩
      · have he0 := HER.out htx
        have hcz : (((cntN a : Nat) : Int) == 0) = false := by rw [beq_eq_false_iff_ne]; omega
        have herb : (er != 0) = false := by rw [he0]; rfl
        have hf3' : f3 = 4607182418800017408 := hf3
        rw [hf3']
        clear hf3 hf3' hcp htx he0 HSELF HF3
        go_wp2_with (first
          | (go_at_call 10; refine (HO.out _).mono ?_; rintro e W5 ⟨rfl, rfl⟩)
          | (go_at_call 8; refine HAU.out.mono ?_; rintro e W7 ⟨rfl, hb7⟩; have HB7 := Lib.hid hb7; clear hb7)
          | (go_at_call 11; refine (HN1.out _).mono ?_; rintro e W6 ⟨rfl, rfl⟩))
        go_ret
        exact ⟨rfl, HB7.out⟩
    · have HN1 := Lib.hid (fun u => isNaN_no f1 u hn1)
      obtain ⟨hlt0, hgt1⟩ := like_between okQ_all HA3.out HB3.out HF1.out hn1
      have hgt2 : (FloatKind.f64.format.order f1 4607182418800017408 == some .gt) = false := hgt1
      clear hn1 HF1 HF2 hgt1
      rcases HSELF.out with ⟨hn3, hc0⟩ | ⟨hf3, hcp, htx⟩
      · have HN3 := Lib.hid (fun u => isNaN_yes f3 u hn3)
        have hcz : (((cntN a : Nat) : Int) == 0) = true := by rw [hc0]; rfl
        clear hn3 hc0 HSELF HF3
        by_cases her0 : er = 0
        · have herb : (er != 0) = false := by rw [her0]; rfl
          clear her0
          go_wp2_with (first
          | (go_at_call 10; refine (HO.out _).mono ?_; rintro e W5 ⟨rfl, rfl⟩)
          | (go_at_call 8; refine HAU.out.mono ?_; rintro e W7 ⟨rfl, hb7⟩; have HB7 := Lib.hid hb7; clear hb7)
          | (go_at_call 11; first
              | (with_reducible refine (HN1.out _).mono ?_; rintro e W6 ⟨rfl, rfl⟩)
              | (with_reducible refine (HN3.out _).mono ?_; rintro e W6 ⟨rfl, rfl⟩)))
          go_ret
          exact ⟨rfl, HB7.out⟩
        · have herb : (er != 0) = true := by rw [bne_iff_ne]; exact her0
          clear her0
          go_wp2_with (first
          | (go_at_call 10; refine (HO.out _).mono ?_; rintro e W5 ⟨rfl, rfl⟩)
          | (go_at_call 8; refine HAU.out.mono ?_; rintro e W7 ⟨rfl, hb7⟩; have HB7 := Lib.hid hb7; clear hb7)
          | (go_at_call 11; first
              | (with_reducible refine (HN1.out _).mono ?_; rintro e W6 ⟨rfl, rfl⟩)
              | (with_reducible refine (HN3.out _).mono ?_; rintro e W6 ⟨rfl, rfl⟩)))
          go_ret
          exact ⟨rfl, HB7.out⟩
      · have he0 := HER.out htx
        have hcz : (((cntN a : Nat) : Int) == 0) = false := by rw [beq_eq_false_iff_ne]; omega
        have herb : (er != 0) = false := by rw [he0]; rfl
        have hf3' : f3 = 4607182418800017408 := hf3
        rw [hf3']
        clear hf3 hf3' hcp htx he0 HSELF HF3
        go_wp2_with (first
          | (go_at_call 10; refine (HO.out _).mono ?_; rintro e W5 ⟨rfl, rfl⟩)
          | (go_at_call 8; refine HAU.out.mono ?_; rintro e W7 ⟨rfl, hb7⟩; have HB7 := Lib.hid hb7; clear hb7)
          | (go_at_call 11; refine (HN1.out _).mono ?_; rintro e W6 ⟨rfl, rfl⟩))
        go_ret
        exact ⟨rfl, HB7.out⟩
  · have hor : (300 : Int) < (a.size : Int) ∨ (300 : Int) < (b.size : Int) := by omega
    by_cases h1 : (300 : Int) < (a.size : Int)
    · clear hor h300
      go_enter Tryz.func4, Tryz.ntmps4
      go_wp2
      go_ret
      exact ⟨rfl, Below.refl _ _⟩
    · have h2 := hor.resolve_left h1
      clear hor h300
      go_enter Tryz.func4, Tryz.ntmps4
      go_wp2
      go_ret
      exact ⟨rfl, Below.refl _ _⟩
end Go.Proofs.YtmlhijlcefogmaaGreatDoor.scanEven
