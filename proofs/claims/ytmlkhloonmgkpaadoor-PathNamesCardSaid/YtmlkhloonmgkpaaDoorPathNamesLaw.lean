/-
  PathNames: for every text the law returns true and its argument reads as it did. Condition: the listed variables of Go's library hold what the program's text lays (the card ties them).
-/
import Derived.Test.YtmlkhloonmgkpaaDoorPathParts
import Derived.Test.YtmlkhloonmgkpaaDoorRefName
import Derived.Test.YtmlkhloonmgkpaaDoorAwake07
import Derived.Test.YtmlkhloonmgkpaaDoorFrame
namespace Go.Proofs.YtmlkhloonmgkpaaDoor.pathNames
open Go.ChangeShapes Go.WideShapes Go.ChangeAt Go.RowKit
open Go.ChangeMaps (open_string shut_string)
set_option linter.unusedVariables false

set_option maxHeartbeats 1000000 in
set_option maxRecDepth 100000 in
theorem texts_any (a b : List ByteArray) (A C : Option Addr) (c d : Nat) (w : World) (ha : Sl w w.heap.size A a.length 1 (a.map Value.string)) (hb : Sl w w.heap.size C b.length 1 (b.map Value.string)) (hn : a.length ≤ 1099511627776) :
    Calls Tryd.prog 39 #[.slice A a.length c, .slice C b.length d] w fun e w' => Below w.heap.size w w' ∧ e = .returned (.bool (decide (a.map L = b.map L))) := by
  by_cases hl : a.length = b.length
  · have HA := Lib.hid ha; clear ha
    have HB := Lib.hid hb; clear hb
    have hle : ((a.length : Int) != (b.length : Int)) = false := by simp; omega
    have HL := Lib.hid hl; clear hl
    go_enter Tryd.func39, Tryd.ntmps39
    go_wp2_with fail
    go_loopw [5] (fun t wr => ∃ k : Nat, k ≤ a.length ∧ t = .int .i64 k ∧ Below w.heap.size w wr ∧ Hid (∀ j (h : j < a.length) (h' : j < b.length), j < k → L a[j] = L b[j])) (fun t _ => a.length - (intOf t).toNat)
    case atStart => exact ⟨0, by omega, rfl, Below.refl _ _, Lib.hid fun j _ _ hj => absurd hj (by omega)⟩
    case round =>
      obtain ⟨k, hk, rfl, hbw, hR⟩ := hrel
      by_cases hlt : k < a.length
      · have hlt2 : k < b.length := by have := HL.out; omega
        obtain ⟨g, off, rfl, hg, hc⟩ := (HA.out.keep hbw).2 (by omega)
        obtain ⟨g2, off2, rfl, hg2, hc2⟩ := (HB.out.keep hbw).2 (by omega)
        have c1 := hc k (.string a[k]) (by simp [hlt])
        have c2 := hc2 k (.string b[k]) (by simp [hlt2])
        clear hc hc2
        have k0 : (0 : Int) ≤ (k : Int) := by omega
        have k1 : (k : Int) < (a.length : Int) := by omega
        have k2 : (k : Int) < (b.length : Int) := by omega
        have hstop : L a[k] ≠ L b[k] → decide (a.map L = b.map L) = false := by
          intro h
          rw [decide_eq_false_iff_not]
          intro e
          have := congrArg (·[k]?) e
          simp [hlt, hlt2] at this
          exact h (by show a[k].data.toList = b[k].data.toList; rw [this])
        have hgo : L a[k] = L b[k] → ∀ j (h : j < a.length) (h' : j < b.length), j < k + 1 → L a[j] = L b[j] := by
          intro h j hj hj' hjk
          rcases (by omega : j < k ∨ j = k) with h' | h'
          · exact hR.out j hj hj' h'
          · subst h'; exact h
        have HST := Lib.hid hstop; clear hstop
        have HGO := Lib.hid hgo; clear hgo
        generalize hx : a[k] = x at *
        generalize hy : b[k] = y at *
        clear hx hy
        have hbq := str_beq x y
        by_cases he : L x = L y
        · rw [decide_eq_true he] at hbq
          have HE := Lib.hid he; clear he
          have hbn : (!(x.toList == y.toList)) = false := by rw [hbq]; rfl
          go_wp2_with fail
          go_quiet (fail)
          go_wp2_with fail
          go_roundw
          case rel => exact ⟨k + 1, by omega, by go_num, below_drewN hbw _, Lib.hid (HGO.out HE.out)⟩
          case measure => simp [intOf]; omega
        · rw [decide_eq_false he] at hbq
          have HE := Lib.hid he; clear he
          have hbn : (!(x.toList == y.toList)) = true := by rw [hbq]; rfl
          go_wp2_with fail
          go_quiet (fail)
          go_wp2_with fail
          go_ret
          exact ⟨below_drewN hbw _, by rw [HST.out HE.out]; rfl⟩
      · go_wp2_with fail
        go_ret
        refine ⟨hbw, ?_⟩
        have : a.map L = b.map L := by
          apply List.ext_getElem
          · simp; exact HL.out
          · intro j h1 h2
            rw [List.length_map] at h1 h2
            rw [List.getElem_map, List.getElem_map]
            exact hR.out j h1 h2 (by omega)
        rw [decide_eq_true this]; rfl
  · have hle : ((a.length : Int) != (b.length : Int)) = true := by simp; omega
    have hno : decide (a.map L = b.map L) = false := by
      rw [decide_eq_false_iff_not]
      intro e
      have := congrArg List.length e
      simp at this
      exact hl this
    rw [hno]
    clear hl ha hb hno
    go_enter Tryd.func39, Tryd.ntmps39
    go_wp2_with fail
    go_ret
    exact ⟨Below.refl _ _, rfl⟩

set_option maxHeartbeats 1000000 in
set_option maxRecDepth 100000 in
theorem walk (s : ByteArray) (w : World) (hs : s.size ≤ maxLen) (hg : Glob w) :
    Calls Tryd.prog 10 #[.string s] w fun e w' => e = .returned (.bool true) ∧ Below w.heap.size w w' := by
  by_cases h : 400 < s.size
  · unfold maxLen at hs
    go_enter Tryd.func10, Tryd.ntmps10
    go_wp2_with fail
    go_ret
    exact ⟨rfl, Below.refl _ _⟩
  · go_enter Tryd.func10, Tryd.ntmps10
    go_wp2_with fail
    refine (name_any s _ hs).mono ?_
    rintro e w1 ⟨rfl, rfl⟩
    go_wp2_with fail
    refine (refName_any s _ hs).mono ?_
    rintro e w2 ⟨hb2, rfl⟩
    go_wp2_with fail
    refine (author_any s _ hs).mono ?_
    rintro e w3 ⟨hb3', rfl⟩
    have hb3 := hb2.trans (hb3'.mono hb2.size)
    clear hb3'
    go_wp2_with fail
    refine (refAuthor_any s _ hs).mono ?_
    rintro e w4 ⟨hb4', rfl⟩
    have hb4 := hb3.trans (hb4'.mono hb3.size)
    clear hb4'
    go_wp2_with fail
    refine (note_any s _ hs).mono ?_
    rintro e w5 ⟨hb5', rfl⟩
    have hb5 := hb4.trans (hb5'.mono hb4.size)
    clear hb5'
    go_wp2_with fail
    refine (refNote_any s _ hs).mono ?_
    rintro e w6 ⟨hb6', rfl⟩
    have hb6 := hb5.trans (hb6'.mono hb5.size)
    clear hb6'
    have g6 := hg.next hb6
    go_wp2_with fail
    refine (path_any s _ hs g6).mono ?_
    rintro e w7 ⟨hb7', rfl⟩
    have hb7 := hb6.trans (hb7'.mono hb6.size)
    clear hb7'
    go_wp2_with fail
    refine (refPath_any s _ hs).mono ?_
    rintro e w8 ⟨hb8', rfl⟩
    have hb8 := hb7.trans (hb8'.mono hb7.size)
    clear hb8'
    have g8 := hg.next hb8
    go_wp2_with fail
    refine (parts_any s _ hs g8).mono ?_
    rintro e w9 ⟨hb9', q, A, c, hq, rfl, hsl, _⟩
    have hb9 := hb8.trans (hb9'.mono hb8.size)
    clear hb9'
    have HQ := Lib.hid hq; clear hq
    have HS := Lib.hid hsl; clear hsl
    go_wp2_with fail
    refine (refParts_any s _ hs).mono ?_
    rintro e w10 ⟨hb10', q2, A2, c2, hq2, rfl, hsl2, _⟩
    have hb10 := hb9.trans (hb10'.mono hb9.size)
    have hsl1 := (HS.out.keep hb10').more hb10'.size
    have HQ2 := Lib.hid hq2; clear hq2
    have HS1 := Lib.hid hsl1; clear hsl1 HS
    have HS2 := Lib.hid hsl2; clear hsl2 hb10'
    have hql : q.length ≤ 1099511627776 := by
      have h1 := congrArg List.length HQ.out
      rw [List.length_map] at h1
      rw [h1]
      unfold partsS
      split
      · have h' := splitB_pieces s
        have h'' := congrArg List.length h'
        rw [List.length_map] at h''
        have h3 := Lib.splitB_length_le slashS 0 (Lib.countB s slashS) s
        have h4 := Lib.countB_le slashS (by decide) _ s (Nat.le_refl _)
        omega
      · simp
    have hmm : decide (q.map L = q2.map L) = true := decide_eq_true (by rw [HQ.out, HQ2.out])
    have HM := Lib.hid hmm; clear hmm
    go_wp2_with fail
    refine (texts_any q q2 A A2 c c2 _ HS1.out HS2.out hql).mono ?_
    rw [HM.out]
    rintro e w11 ⟨hb11', rfl⟩
    have hb11 := hb10.trans (hb11'.mono hb10.size)
    clear hb11'
    have g11 := hg.next hb11
    go_wp2_with fail
    refine (awake07_any _ g11).mono ?_
    rintro e w12 ⟨hb12', rfl⟩
    have hb12 := hb11.trans (hb12'.mono hb11.size)
    go_wp2_with fail
    go_ret
    exact ⟨rfl, hb12⟩
set_option maxRecDepth 100000 in
theorem contract (H : Type) (enc : TypeId × Value → H) (W : World) (base : Nat) (args : Array Value) (ds gs : List (DataW H)) (before : List MemPlace)
    (hval : ∀ (j : Nat) t v, Tryd.f10.params[j]? = some t → args[j]? = some v → Value.okWide Tryd.prog W .any base t v)
    (hW : DataW.Whole enc Tryd.prog Tryd.f10.params.toList Rows.pathNamesSpec.vars false W args.toList ds gs before) (hS : W.ShapedOpen Tryd.prog) :
    Calls Tryd.prog 10 args W fun e W' => ∃ v, e = .returned v ∧ Rows.pathNamesSpec.post enc Tryd.prog Tryd.f10 false true false false W args v W' := by
  have hW' := hW
  obtain ⟨p, q, hA0, hV, rfl, hfz, hnd⟩ := hW
  have hA : DataW.TrodAll enc Tryd.prog W 0 (fun _ => true) true Tryd.f10.params.toList args.toList ds p := hA0
  rw [Tryd.params10] at hA hval
  obtain ⟨v0, vs0, d0, ds0, p0, q0, hargs, rfl, rfl, h0, r0⟩ := trodAll_cons hA
  obtain ⟨rfl, rfl, rfl⟩ := trodAll_nil r0
  obtain rfl : args = #[v0] := by cases args; simp_all
  obtain ⟨rfl, rfl⟩ := trodVars_none hV
  obtain ⟨s0, rfl, rfl, rfl, hs0⟩ := open_string Tryd.underlying9 (hval 0 9 v0 rfl rfl) h0
  clear hA0
  simp only [List.append_nil] at hW'
  refine (walk s0 W hs0 (glob0 hS)).mono fun e W' ⟨he, bel⟩ => ?_
  subst he
  exact ⟨_, rfl, _, _, _, [], _, [], hW', trodAll_mk1 (shut_bool Tryd.underlying4 _), (trodAll_cons_mk (shut_string Tryd.underlying9 hs0) trodAll_mk0), rfl, bel.frame _, fun h => by cases h⟩

noncomputable def laidWorld (os : Os) : World := World.laidAll Tryd.prog os Rows.pathNamesRow.laid
set_option maxRecDepth 100000 in
theorem laid_met (os : Os) : laidMetH Tryd.prog Rows.pathNamesRow.laid ((laidWorld os).forCall (fun _ _ => 0) ⟨#[], #[.string ByteArray.empty], []⟩).memory := by
  rw [MakeChecks.laidMetH_plain _ _ _ (by kernel_rfl)]
  exact laidMet_laidAll _ (by kernel_rfl) (by kernel_rfl)
set_option maxRecDepth 100000 in
theorem reads (os : Os) {H : Type} (enc : TypeId × Value → H) : ∃ places, DataW.whole enc Tryd.prog ((laidWorld os).forCall (fun _ _ => 0) ⟨#[], #[.string ByteArray.empty], []⟩).memory Tryd.f10.params.toList Rows.pathNamesSpec.vars false #[Value.string ByteArray.empty].toList 8 = some ([.lit (.string [])], [], places) :=
  ⟨[], by kernel_rfl⟩

set_option maxRecDepth 100000 in
theorem lifted (os : Os) (started : os.Started) (H : Type) (enc : TypeId × Value → H) (F : Stop.Interp) :
    ReturnsInHanded {} Tryd.checked os 10 .any ((OpenSpec.ofChange Rows.pathNamesSpec).preRow enc Tryd.prog Tryd.f10 Rows.pathNamesRow.domain false Rows.pathNamesRow.laid) (((OpenSpec.ofChange Rows.pathNamesSpec).at F).post enc Tryd.prog Tryd.f10 false true false false) := by
  obtain ⟨places, hx⟩ := reads os enc
  refine returnsInHanded_of_row (C := Tryd.checked) (s := OpenSpec.ofChange Rows.pathNamesSpec) own started (by kernel_rfl) Tryd.func10
    (witness_laid (C := Tryd.checked) (laidWorld os) #[.string ByteArray.empty] (World.laidAll_os _ _ _) (World.shaped_of_ZipB (by kernel_rfl) (by kernel_rfl)) (by kernel_rfl)
      (OpenSpec.preRow_of_cond 8 hx (by kernel_rfl) (fun k hk => by cases hk) (by kernel_rfl) (laid_met os))) ?_
  intro W base args ds gs before hval hW _ _ _ hL hS _
  exact contract H enc W base args ds gs before hval hW hS

theorem said : Rows.PathNamesSaid :=
  OpenClaim.holds_of_cond 10 Tryd.f10 rfl rfl rfl rfl rfl rfl rfl ⟨rfl, rfl, rfl, rfl, rfl⟩ rfl rfl rfl rfl rfl (by kernel_rfl) Tryd.func10 (by kernel_rfl)
    (of_decide_eq_true (by kernel_rfl)) (by unfold Func.isWrapper; first | (rw [if_pos (by decide +kernel)]; kernel_rfl) | (rw [if_neg (by decide +kernel)]; exact ⟨rfl, rfl⟩))
    (fun os started H enc _ F => by rw [OpenClaim.pre_eq_preRow]; exact lifted os started H enc F)

theorem plain (f : FuncId) (fn : Func) (hf : Tryd.pinned.checked.prog.funcNamed "variorum/variorumlaw07.PathNames" = some f) (hfn : Tryd.pinned.checked.prog.funcs[f]? = some fn) :
    true = Tryd.pinned.checked.prog.looks [] ∧ ∀ (j : Nat) t, fn.params[j]? = some t → Tryd.pinned.checked.prog.wantsStandIn t = false := by
  obtain rfl : f = 10 := Option.some.inj ((show Tryd.prog.funcNamed "variorum/variorumlaw07.PathNames" = some 10 by kernel_rfl).symm.trans hf) |>.symm
  obtain rfl : fn = Tryd.f10 := (Option.some.inj (Tryd.func10.symm.trans hfn)).symm
  refine ⟨by kernel_rfl, fun j t ht => ?_⟩
  rw [Tryd.params10] at ht
  have hm : t ∈ [9] := by simpa using Array.mem_of_getElem? ht
  have hall : ([9].all fun u => !Tryd.prog.wantsStandIn u) = true := by kernel_rfl
  exact (show Tryd.prog.wantsStandIn t = false by simpa using List.all_eq_true.1 hall t hm)

/-- THE CARD. -/
theorem card : Rows.PathNamesCardSaid :=
  Claim7.holds_tied_plain_at .later [] _ _ _ _ said (fun _ h => by cases h) (by kernel_rfl) (fun _ h => by cases h) pathNames_row_tie rfl ⟨rfl, rfl⟩ (by kernel_rfl) rfl plain (by kernel_rfl)
end Go.Proofs.YtmlkhloonmgkpaaDoor.pathNames
