/-
  PathFresh: for every two texts and every slice of texts the law returns true and its arguments read as they did. Condition: the listed variables of Go's library hold what the program's text lays (the card ties them).
-/
import Derived.Test.YtmlkhloonmgkpaaDoorRefFresh
import Derived.Test.YtmlkhloonmgkpaaDoorPathParts
import Derived.Test.YtmlkhloonmgkpaaDoorAppS
import Derived.Test.YtmlkhloonmgkpaaDoorAwake07
import Derived.Test.YtmlkhloonmgkpaaDoorFrame
namespace Go.Proofs.YtmlkhloonmgkpaaDoor.pathFresh
open Go.ChangeShapes Go.WideShapes Go.ChangeAt Go.RowKit
open Go.ChangeMaps (open_string shut_string)
set_option linter.unusedVariables false

set_option maxHeartbeats 1000000 in
set_option maxRecDepth 100000 in
theorem walk (s o : ByteArray) (taken : List ByteArray) (A : Option Addr) (c : Nat) (w : World) (hs : s.size ≤ maxLen) (ho : o.size ≤ maxLen) (hn : taken.length ≤ maxLen) (hz : ∀ t ∈ taken, t.size ≤ maxLen)
    (hsl : Sl w w.heap.size A taken.length 1 (strs taken)) (hg : Glob w) :
    Calls Tryd.prog 6 #[.string s, .string o, .slice A taken.length c] w fun e w' => e = .returned (.bool true) ∧ Below w.heap.size w w' := by
  have HSL := Lib.hid hsl; clear hsl
  have HZ := Lib.hid hz; clear hz
  unfold maxLen at hs ho hn
  by_cases hbig : 60 < taken.length ∨ 100 < s.size ∨ 100 < o.size
  · go_enter Tryd.func6, Tryd.ntmps6
    rcases (by omega : 60 < taken.length ∨ (¬ 60 < taken.length ∧ 100 < s.size) ∨ (¬ 60 < taken.length ∧ ¬ 100 < s.size ∧ 100 < o.size)) with h | ⟨h, h'⟩ | ⟨h, h', h''⟩
    all_goals
      clear hbig
      go_wp2_with fail
      go_ret
      exact ⟨rfl, Below.refl _ _⟩
  · have h1 : ¬ 60 < taken.length := by omega
    have h2 : ¬ 100 < s.size := by omega
    have h3 : ¬ 100 < o.size := by omega
    clear hbig hs ho hn
    go_enter Tryd.func6, Tryd.ntmps6
    go_wp2_with fail
    go_loop [7] (fun t => ∃ i : Nat, i ≤ taken.length ∧ t = .int .i64 i ∧ Hid (∀ j (hj : j < taken.length), j < i → taken[j].size ≤ 100)) (fun t => taken.length - (intOf t).toNat)
    case atStart => exact ⟨0, by omega, rfl, Lib.hid fun j _ hj => absurd hj (by omega)⟩
    case round =>
      obtain ⟨i, hi, rfl, hI⟩ := hrel
      by_cases hlt : i < taken.length
      · obtain ⟨g, off, rfl, hbl, hcl⟩ := HSL.out.2 (by omega)
        have hc := hcl i (.string taken[i]) (by simp [strs, hlt])
        have hti : ∀ x, taken[i] = x → x.size ≤ 100 → ∀ j (hj : j < taken.length), j < i + 1 → taken[j].size ≤ 100 := by
          intro x hx hxs j hj hji
          rcases (by omega : j < i ∨ j = i) with h | h
          · exact hI.out j hj h
          · subst h; rw [hx]; exact hxs
        have hzi := HZ.out _ (List.getElem_mem hlt)
        unfold maxLen at hzi
        have HTI := Lib.hid hti; clear hti hcl
        have i0 : (0 : Int) ≤ (i : Int) := by omega
        have i1 : (i : Int) < (taken.length : Int) := by omega
        generalize hx : taken[i] = x at *
        have HX := Lib.hid hx; clear hx
        by_cases hxs : 100 < x.size
        · go_wp2_with fail
          go_ret
          exact ⟨rfl, Below.refl _ _⟩
        · go_wp2_with fail
          go_round
          case rel => exact ⟨i + 1, by omega, by go_num, Lib.hid (HTI.out x rfl (by omega))⟩
          case measure => simp [intOf]; omega
      · have hsm : smallL taken := by
          intro t ht
          obtain ⟨j, hj, rfl⟩ := List.getElem_of_mem ht
          have := hI.out j hj (by omega)
          omega
        have HSM := Lib.hid hsm; clear hsm
        go_wp2_with fail
        refine (clash_any s o _ (by omega) (by omega)).mono ?_
        rintro e w1 ⟨rfl, rfl⟩
        go_wp2_with fail
        refine (refClash_any s o _ (by omega) (by omega)).mono ?_
        rintro e w1 ⟨rfl, rfl⟩
        have hone : ∀ u ∈ strs taken, u.oneCell' = true := by
          intro u hu
          obtain ⟨t, _, rfl⟩ := List.mem_map.1 hu
          rfl
        have HONE := Lib.hid hone; clear hone
        go_wp2_with (at_builtin; refine wp_appS (by rfl) _ _ 53 rfl 9 (.string ByteArray.empty) 1 16 Tryd.underlying53 info_str rfl (by decide) rfl A taken.length c (strs taken) rfl HSL.out HONE.out ?c1 ?c2 ?_)
        case c1 => unfold maxLen; omega
        case c2 => omega
        intro A' c' w1 hsl1 hb1
        have HSL1 := Lib.hid hsl1; clear hsl1
        go_wp2_with fail
        refine (fresh_any s taken A' c' _ (by omega) (by omega) HSM.out HSL1.out).mono ?_
        rintro e w2 ⟨hb2', t1, rfl, ht1⟩
        have hb2 := hb1.trans (hb2'.mono hb1.size)
        have hsl2 := (HSL.out.keep hb2).more hb2.size
        have HSL2 := Lib.hid hsl2; clear hsl2 hb2'
        have HT1 := Lib.hid ht1; clear ht1
        go_wp2_with fail
        refine (refFresh_any s taken A c _ (by omega) (by omega) HSM.out HSL2.out).mono ?_
        rintro e w3 ⟨hb3', t2, rfl, ht2⟩
        have hb3 := hb2.trans (hb3'.mono hb2.size)
        have heq : (t1.toList == t2.toList) = true := by
          rw [str_beq, HT1.out, ht2]
          simp
        clear ht2 hb3'
        have g3 := hg.next hb3
        go_wp2_with fail
        refine (awake07_any _ g3).mono ?_
        rintro e w4 ⟨hb4, rfl⟩
        go_wp2_with fail
        go_ret
        exact ⟨rfl, hb3.trans (hb4.mono hb3.size)⟩
/-- A slice of texts that came in. -/
theorem strs_in {H : Type} {enc : TypeId × Value → H} {W : World} {a : Option Addr} {len cap : Nat} {d : DataW H} {ps : List MemPlace}
    (h : DataW.Trod enc Tryd.prog W 0 (fun _ => true) true 53 (.slice a len cap) d ps) :
    ∃ taken : List ByteArray, taken.length = len ∧ len ≤ maxLen ∧ (∀ t ∈ taken, t.size ≤ maxLen) ∧ Sl W W.heap.size a taken.length 1 (Go.Proofs.YtmlkhloonmgkpaaDoor.strs taken) := by
  have lt : ∀ x ∈ ps, x.block < W.heap.size := by obtain ⟨m, hm⟩ := h; exact DataW.trod_lt m _ _ _ hm
  obtain ⟨fuel, hf⟩ := h
  rcases open_strings Tryd.underlying53 Tryd.underlying9 (by kernel_rfl) hf with ⟨hcs, _⟩ | ⟨x, l, c, ss, hcs, _, hl, hm, hss, hx, hcell, hz⟩
  · simp [Value.cells] at hcs
    obtain ⟨rfl, rfl, rfl⟩ := hcs
    exact ⟨[], rfl, by unfold maxLen; omega, by simp, Sl.nil⟩
  · simp [Value.cells] at hcs
    obtain ⟨rfl, rfl, rfl⟩ := hcs
    have hsl : ss.length = cap := by simpa using hss
    have hlen : (ss.take len).length = len := by rw [List.length_take]; omega
    refine ⟨ss.take len, hlen, by omega, fun t ht => hz t (List.mem_of_mem_take ht), by simp [Go.Proofs.YtmlkhloonmgkpaaDoor.strs], fun h0 => ?_⟩
    rw [hlen] at h0
    obtain ⟨b, off, spot⟩ := x
    have hc := hcell 0 (by omega)
    obtain rfl : spot = none := by simpa [Addr.add] using World.cell?_spot hc
    have hblk : b < W.heap.size := by
      have hc0 : W.cell? ⟨b, off, none⟩ = some (.string (ss.getD 0 ByteArray.empty)) := by simpa [Addr.add] using hc
      rcases Nat.lt_or_ge b W.heap.size with q | q
      · exact q
      · unfold World.cell? at hc0
        rw [Array.getElem?_eq_none q] at hc0
        cases hc0
    refine ⟨b, off, rfl, hblk, fun j u hu => ?_⟩
    have hj : j < len := by
      have := (List.getElem?_eq_some_iff.1 hu).1
      simp [Go.Proofs.YtmlkhloonmgkpaaDoor.strs] at this
      omega
    have hcj := hcell j (by omega)
    have e1 : (⟨b, off, none⟩ : Addr).add j = ⟨b, off + j, none⟩ := by unfold Addr.add; split <;> simp_all
    rw [e1] at hcj
    rw [hcj, ← hu]
    simp [Go.Proofs.YtmlkhloonmgkpaaDoor.strs, hj, List.getD_eq_getElem?_getD, show j < ss.length by omega]

set_option maxRecDepth 100000 in
theorem contract (H : Type) (enc : TypeId × Value → H) (W : World) (base : Nat) (args : Array Value) (ds gs : List (DataW H)) (before : List MemPlace)
    (hval : ∀ (j : Nat) t v, Tryd.f6.params[j]? = some t → args[j]? = some v → Value.okWide Tryd.prog W .any base t v)
    (hW : DataW.Whole enc Tryd.prog Tryd.f6.params.toList Rows.pathFreshSpec.vars false W args.toList ds gs before) (hS : W.ShapedOpen Tryd.prog) :
    Calls Tryd.prog 6 args W fun e W' => ∃ v, e = .returned v ∧ Rows.pathFreshSpec.post enc Tryd.prog Tryd.f6 false true false false W args v W' := by
  have hW' := hW
  obtain ⟨p, q, hA0, hV, rfl, hfz, hnd⟩ := hW
  have hA : DataW.TrodAll enc Tryd.prog W 0 (fun _ => true) true Tryd.f6.params.toList args.toList ds p := hA0
  rw [Tryd.params6] at hA hval
  obtain ⟨v0, vs0, d0, ds0, p0, q0, hargs, rfl, rfl, h0, r0⟩ := trodAll_cons hA
  obtain ⟨v1, vs1, d1, ds1, p1, q1, rfl, rfl, rfl, h1, r1⟩ := trodAll_cons r0
  obtain ⟨v2, vs2, d2, ds2, p2, q2, rfl, rfl, rfl, h2, r2⟩ := trodAll_cons r1
  obtain ⟨rfl, rfl, rfl⟩ := trodAll_nil r2
  obtain rfl : args = #[v0, v1, v2] := by cases args; simp_all
  obtain ⟨rfl, rfl⟩ := trodVars_none hV
  obtain ⟨s0, rfl, rfl, rfl, hs0⟩ := open_string Tryd.underlying9 (hval 0 9 v0 rfl rfl) h0
  obtain ⟨s1, rfl, rfl, rfl, hs1⟩ := open_string Tryd.underlying9 (hval 1 9 v1 rfl rfl) h1
  obtain ⟨a2, len2, cap2, rfl⟩ := okWide_slice Tryd.underlying53 (hval 2 53 v2 rfl rfl)
  have k2 := h2
  have lt2 : ∀ x ∈ p2, x.block < W.heap.size := by obtain ⟨m, hm⟩ := k2; exact DataW.trod_lt m _ _ _ hm
  obtain ⟨taken, ht1, ht2, ht3, ht4⟩ : ∃ taken : List ByteArray, taken.length = len2 ∧ len2 ≤ maxLen ∧ (∀ t ∈ taken, t.size ≤ maxLen) ∧ Sl W W.heap.size a2 taken.length 1 (strs taken) := strs_in k2
  subst ht1
  clear hA0
  simp only [List.append_nil] at hW'
  refine (walk s0 s1 taken a2 cap2 W hs0 hs1 ht2 ht3 ht4 (glob0 hS)).mono fun e W' ⟨he, bel⟩ => ?_
  subst he
  exact ⟨_, rfl, _, _, _, [], _, [], hW', trodAll_mk1 (shut_bool Tryd.underlying4 _), (trodAll_cons_mk (shut_string Tryd.underlying9 hs0) (trodAll_cons_mk (shut_string Tryd.underlying9 hs1) (trodAll_cons_mk (Below.trod laidOut (by kernel_rfl) (of_decide_eq_true (by kernel_rfl)) k2 bel lt2) trodAll_mk0))), rfl, bel.frame _, fun h => by cases h⟩

noncomputable def laidWorld (os : Os) : World := World.laidAll Tryd.prog os Rows.pathFreshRow.laid
set_option maxRecDepth 100000 in
theorem laid_met (os : Os) : laidMetH Tryd.prog Rows.pathFreshRow.laid ((laidWorld os).forCall (fun _ _ => 0) ⟨#[], #[.string ByteArray.empty, .string ByteArray.empty, .slice none 0 0], []⟩).memory := by
  rw [MakeChecks.laidMetH_plain _ _ _ (by kernel_rfl)]
  exact laidMet_laidAll _ (by kernel_rfl) (by kernel_rfl)
set_option maxRecDepth 100000 in
theorem reads (os : Os) {H : Type} (enc : TypeId × Value → H) : ∃ places, DataW.whole enc Tryd.prog ((laidWorld os).forCall (fun _ _ => 0) ⟨#[], #[.string ByteArray.empty, .string ByteArray.empty, .slice none 0 0], []⟩).memory Tryd.f6.params.toList Rows.pathFreshSpec.vars false #[Value.string ByteArray.empty, Value.string ByteArray.empty, Value.slice none 0 0].toList 8 = some ([.lit (.string []), .lit (.string []), .nil], [], places) :=
  ⟨[], by kernel_rfl⟩

set_option maxRecDepth 100000 in
theorem lifted (os : Os) (started : os.Started) (H : Type) (enc : TypeId × Value → H) (F : Stop.Interp) :
    ReturnsInHanded {} Tryd.checked os 6 .any ((OpenSpec.ofChange Rows.pathFreshSpec).preRow enc Tryd.prog Tryd.f6 Rows.pathFreshRow.domain false Rows.pathFreshRow.laid) (((OpenSpec.ofChange Rows.pathFreshSpec).at F).post enc Tryd.prog Tryd.f6 false true false false) := by
  obtain ⟨places, hx⟩ := reads os enc
  refine returnsInHanded_of_row (C := Tryd.checked) (s := OpenSpec.ofChange Rows.pathFreshSpec) own started (by kernel_rfl) Tryd.func6
    (witness_laid (C := Tryd.checked) (laidWorld os) #[.string ByteArray.empty, .string ByteArray.empty, .slice none 0 0] (World.laidAll_os _ _ _) (World.shaped_of_ZipB (by kernel_rfl) (by kernel_rfl)) (by kernel_rfl)
      (OpenSpec.preRow_of_cond 8 hx (by kernel_rfl) (fun k hk => by cases hk) (by kernel_rfl) (laid_met os))) ?_
  intro W base args ds gs before hval hW _ _ _ hL hS _
  exact contract H enc W base args ds gs before hval hW hS

theorem said : Rows.PathFreshSaid :=
  OpenClaim.holds_of_cond 6 Tryd.f6 rfl rfl rfl rfl rfl rfl rfl ⟨rfl, rfl, rfl, rfl, rfl⟩ rfl rfl rfl rfl rfl (by kernel_rfl) Tryd.func6 (by kernel_rfl)
    (of_decide_eq_true (by kernel_rfl)) (by unfold Func.isWrapper; first | (rw [if_pos (by decide +kernel)]; kernel_rfl) | (rw [if_neg (by decide +kernel)]; exact ⟨rfl, rfl⟩))
    (fun os started H enc _ F => by rw [OpenClaim.pre_eq_preRow]; exact lifted os started H enc F)

theorem plain (f : FuncId) (fn : Func) (hf : Tryd.pinned.checked.prog.funcNamed "variorum/variorumlaw07.PathFresh" = some f) (hfn : Tryd.pinned.checked.prog.funcs[f]? = some fn) :
    true = Tryd.pinned.checked.prog.looks [] ∧ ∀ (j : Nat) t, fn.params[j]? = some t → Tryd.pinned.checked.prog.wantsStandIn t = false := by
  obtain rfl : f = 6 := Option.some.inj ((show Tryd.prog.funcNamed "variorum/variorumlaw07.PathFresh" = some 6 by kernel_rfl).symm.trans hf) |>.symm
  obtain rfl : fn = Tryd.f6 := (Option.some.inj (Tryd.func6.symm.trans hfn)).symm
  refine ⟨by kernel_rfl, fun j t ht => ?_⟩
  rw [Tryd.params6] at ht
  have hm : t ∈ [9, 9, 53] := by simpa using Array.mem_of_getElem? ht
  have hall : ([9, 9, 53].all fun u => !Tryd.prog.wantsStandIn u) = true := by kernel_rfl
  exact (show Tryd.prog.wantsStandIn t = false by simpa using List.all_eq_true.1 hall t hm)

/-- THE CARD. -/
theorem card : Rows.PathFreshCardSaid :=
  Claim7.holds_tied_plain_at .later [] _ _ _ _ said (fun _ h => by cases h) (by kernel_rfl) (fun _ h => by cases h) pathFresh_row_tie rfl ⟨rfl, rfl⟩ (by kernel_rfl) rfl plain (by kernel_rfl)
end Go.Proofs.YtmlkhloonmgkpaaDoor.pathFresh
