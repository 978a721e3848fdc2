/-
  HunkFiles' walk: the law returns true. Conditions: the library's variable MaxLen holds a number, its table of powers of ten what it should.
-/
import Derived.Test.YthjaepmfkgejkaaDoorAwake23
import Derived.Test.YthjaepmfkgejkaaDoorRefLines23
import Derived.Test.YthjaepmfkgejkaaDoorLinesNone23
namespace Go.Proofs.YthjaepmfkgejkaaDoor.hunkFiles
open Go.RowKit
set_option linter.unusedVariables false
set_option linter.unusedSimpArgs false

/-- Lines, and an error's number, as either side hands them back. -/
def TwoGive (fa fb : List FileD) (w : World) (e : Ending) (w' : World) : Prop := Below w.heap.size w w' ∧ ∃ (A : Option Addr) (c : Nat) (xs : List ByteArray) (er : Int), e = .returned (.tuple #[.slice A xs.length c, .int .i64 er]) ∧ ((linesL fa fb (pathsP fa fb) = some (xs.map L) ∧ er = 0 ∧ xs.length ≤ 1000000000) ∨ (linesL fa fb (pathsP fa fb) = none ∧ er = 5 ∧ xs = [])) ∧ Sl w' w'.heap.size A xs.length 1 (strs xs)
theorem lines_bound (fa fb : List FileD) (hok : ∀ f ∈ fa ++ fb, f.1.size ≤ 100 ∧ f.2.size ≤ 200) : ∀ (P : List (List UInt8)) (ls : List (List UInt8)), linesL fa fb P = some ls → ls.length ≤ 2000 * P.length
  | [], ls, h => by cases h; simp
  | p :: P, ls, h => by
    have h' : (told1 fa fb ⟨p.toArray⟩).bind (fun t => (linesL fa fb P).map (t ++ ·)) = some ls := h
    rcases h1 : told1 fa fb ⟨p.toArray⟩ with _ | t
    · rw [h1] at h'; cases h'
    · rcases h2 : linesL fa fb P with _ | u
      · rw [h1, h2] at h'; cases h'
      · rw [h1, h2] at h'
        have h3 := lines_bound fa fb hok P u h2
        have h4 : t.length ≤ 2000 := by
          unfold told1 at h1
          split at h1
          · cases h1; simp
          · split at h1
            · cases h1
              have hc := cntH_hunks (L (bytesOf fa ⟨p.toArray⟩)) (L (bytesOf fb ⟨p.toArray⟩))
              have ha := bytesOf_le (N := 200) (fun f hf => (hok f (List.mem_append_left fb hf)).2) ⟨p.toArray⟩
              have hb := bytesOf_le (N := 200) (fun f hf => (hok f (List.mem_append_right fa hf)).2) ⟨p.toArray⟩
              rw [L_length, L_length] at hc
              show (_ :: _ : List (List UInt8)).length ≤ _
              rw [List.length_cons]
              unfold cntH at hc
              omega
            · cases h1
        have h5 : ls = t ++ u := (Option.some.inj h').symm
        rw [h5, List.length_append, List.length_cons]
        omega
theorem two_of {fa fb : List FileD} (hok : ∀ f ∈ fa ++ fb, f.1.size ≤ 100 ∧ f.2.size ≤ 200) (hn : fa.length + fb.length ≤ 24) {w w' : World} {e : Ending} (h : LinesGive fa fb w e w') : TwoGive fa fb w e w' := by
  obtain ⟨h1, h2⟩ := h
  refine ⟨h1, ?_⟩
  rcases h2 with ⟨ls, hl, A, c, xs, rfl, rfl, hs⟩ | ⟨hl, rfl⟩
  · have hb := lines_bound fa fb hok _ _ hl
    have hp := Lib.compact_length_le (sortS ((fa ++ fb).map fun f => L f.1))
    rw [sortS_length, List.length_map, List.length_append] at hp
    have hp2 : (pathsP fa fb).length ≤ fa.length + fb.length := hp
    rw [List.length_map] at hb
    exact ⟨A, c, xs, 0, rfl, .inl ⟨hl, rfl, by omega⟩, hs⟩
  · exact ⟨none, 0, [], 5, rfl, .inr ⟨hl, rfl, rfl⟩, Sl.nil⟩
theorem lines_same {fa fb : List FileD} {xs ys : List ByteArray} {er er' : Int} (h : ((linesL fa fb (pathsP fa fb) = some (xs.map L) ∧ er = 0 ∧ xs.length ≤ 1000000000) ∨ (linesL fa fb (pathsP fa fb) = none ∧ er = 5 ∧ xs = []))) (h' : ((linesL fa fb (pathsP fa fb) = some (ys.map L) ∧ er' = 0 ∧ ys.length ≤ 1000000000) ∨ (linesL fa fb (pathsP fa fb) = none ∧ er' = 5 ∧ ys = []))) : er = er' ∧ xs.map L = ys.map L ∧ xs.length ≤ 1000000000 := by
  rcases h with ⟨h1, rfl, h3⟩ | ⟨h1, rfl, rfl⟩ <;> rcases h' with ⟨g1, rfl, g3⟩ | ⟨g1, rfl, rfl⟩
  · rw [h1] at g1; exact ⟨rfl, Option.some.inj g1, h3⟩
  · rw [h1] at g1; cases g1
  · rw [h1] at g1; cases g1
  · exact ⟨rfl, rfl, by simp⟩
theorem progLines_any (fa fb : List FileD) (A B : Option Addr) (ca cb : Nat) (w : World) (hna : fa.length ≤ 12) (hnb : fb.length ≤ 12) (hok : ∀ f ∈ fa ++ fb, f.1.size ≤ 100 ∧ f.2.size ≤ 200)
    (hsa : Sl w w.heap.size A fa.length 2 (cells2 fa)) (hsb : Sl w w.heap.size B fb.length 2 (cells2 fb)) (hg : Glob w) (hit : ∀ u, Below w.heap.size w u → ItoaAt 200 u) :
    Calls Tryd.prog 17 #[.slice A fa.length ca, .slice B fb.length cb] w (TwoGive fa fb w) := by
  by_cases h0 : fa.length + fb.length = 0
  · obtain rfl : fa = [] := List.length_eq_zero_iff.1 (by omega)
    obtain rfl : fb = [] := List.length_eq_zero_iff.1 (by omega)
    exact (lines_none A B ca cb w).mono fun e w' h => two_of hok (by simp) h
  · exact (lines_any fa fb 200 A B ca cb w (by omega) (by omega) (by omega) (fun f hf => by have := hok f hf; omega) (by omega) hsa hsb hg hit).mono fun e w' h => two_of hok (by omega) h
theorem refTwo_any (fa fb : List FileD) (A B : Option Addr) (ca cb : Nat) (w : World) (hna : fa.length ≤ 12) (hnb : fb.length ≤ 12) (hok : ∀ f ∈ fa ++ fb, f.1.size ≤ 100 ∧ f.2.size ≤ 200)
    (hsa : Sl w w.heap.size A fa.length 2 (cells2 fa)) (hsb : Sl w w.heap.size B fb.length 2 (cells2 fb)) :
    Calls Tryd.prog 18 #[.slice A fa.length ca, .slice B fb.length cb] w (TwoGive fa fb w) :=
  (refLines_any fa fb A B ca cb w (by omega) (by omega) (fun f hf => by have := hok f hf; omega) hsa hsb).mono fun e w' h => two_of hok (by omega) h
set_option maxHeartbeats 8000000 in
set_option maxRecDepth 100000 in
theorem walk (fa : List (ByteArray × ByteArray)) (A : Option Addr) (ca : Nat) (fb : List (ByteArray × ByteArray)) (B : Option Addr) (cb : Nat) (w : World) (hna : fa.length ≤ maxLen) (hca : fa.length ≤ ca) (hsma : smallF fa) (hsa : Sl w w.heap.size A fa.length 2 (cells2 fa)) (hnb : fb.length ≤ maxLen) (hcb : fb.length ≤ cb) (hsmb : smallF fb) (hsb : Sl w w.heap.size B fb.length 2 (cells2 fb)) (hg : Glob w) (htab : Lib.TabIs Tryd.prog w "internal/strconv.uint64pow10" .u64 Lib.pow10Tab) :
    Calls Tryd.prog 6 #[.slice A fa.length ca, .slice B fb.length cb] w fun e w' => e = .returned (.bool true) ∧ Below w.heap.size w w' := by
  unfold maxLen at hna hnb
  have HIT := Lib.hid (fun (u : World) (hu : Below w.heap.size w u) => itoa_tab 200 u (by omega) (TabIs_below (g := 1) (by kernel_rfl) htab hu))
  have HSA := Lib.hid hsa; have HSB := Lib.hid hsb; have HG := Lib.hid hg; have HSM1 := Lib.hid hsma; have HSM2 := Lib.hid hsmb
  clear hsa hsb hg hsma hsmb htab
  by_cases h1 : 12 < fa.length
  · go_enter Tryd.func6, Tryd.ntmps6
    go_wp2_with fail
    go_ret
    exact ⟨rfl, Below.refl _ _⟩
  by_cases h2 : 12 < fb.length
  · go_enter Tryd.func6, Tryd.ntmps6
    go_wp2_with fail
    go_ret
    exact ⟨rfl, Below.refl _ _⟩
  go_enter Tryd.func6, Tryd.ntmps6
  go_wp2_with fail
  go_loop [5] (fun t => ∃ i : Nat, i ≤ fa.length ∧ t = .int .i64 (i : Int) ∧ Hid (∀ j (h : j < fa.length), j < i → fa[j].1.size ≤ 100 ∧ fa[j].2.size ≤ 200)) (fun t => fa.length - (intOf t).toNat)
  case atStart => exact ⟨0, Nat.zero_le _, rfl, Lib.hid fun j _ h => absurd h (by omega)⟩
  case round =>
    obtain ⟨i, hi, rfl, HI1⟩ := hrel
    by_cases hlt : i < fa.length
    · obtain ⟨b, off, rfl, hbl, hcl⟩ := HSA.out.2 (by omega)
      have i0 : (0 : Int) ≤ (i : Int) := by omega
      have i1 : (i : Int) < (fa.length : Int) := by omega
      obtain ⟨g0, g1⟩ := cells2_get fa i hlt
      have q0 := hcl _ _ g0
      have q1 := hcl _ _ g1
      rw [← Nat.add_assoc] at q1
      have hsm := HSM1.out _ (List.getElem_mem hlt)
      have HNX : Hid (fa[i].1.size ≤ 100 ∧ fa[i].2.size ≤ 200 → ∀ j (h : j < fa.length), j < i + 1 → fa[j].1.size ≤ 100 ∧ fa[j].2.size ≤ 200) := Lib.hid fun hh j hj hji => by
        rcases (by omega : j < i ∨ j = i) with q | rfl
        · exact HI1.out j hj q
        · exact hh
      clear hcl g0 g1
      generalize fa[i] = f at *
      obtain ⟨p, by'⟩ := f
      simp only at q0 q1 hsm
      by_cases h2 : 200 < by'.size
      · have d2 : (200 : Int) < (by'.size : Int) := by omega
        go_wp2_with fail
        go_ret
        exact ⟨rfl, Below.refl _ _⟩
      by_cases h1 : 100 < p.size
      · have d1 : (100 : Int) < (p.size : Int) := by omega
        have d2 : ¬ (200 : Int) < (by'.size : Int) := by omega
        go_wp2_with fail
        go_ret
        exact ⟨rfl, Below.refl _ _⟩
      have d1 : ¬ (100 : Int) < (p.size : Int) := by omega
      have d2 : ¬ (200 : Int) < (by'.size : Int) := by omega
      have HN2 := Lib.hid (HNX.out ⟨by show p.size ≤ 100; omega, by show by'.size ≤ 200; omega⟩)
      go_wp2_with fail
      go_round
      case rel => exact ⟨i + 1, by omega, by go_num, HN2⟩
      case measure => (simp [intOf]) <;> omega
    · have i1 : ¬ (i : Int) < (fa.length : Int) := by omega
      have hie : i = fa.length := by omega
      subst hie
      go_wp2_with fail
      go_loop [6] (fun t => ∃ i : Nat, i ≤ fb.length ∧ t = .int .i64 (i : Int) ∧ Hid (∀ j (h : j < fb.length), j < i → fb[j].1.size ≤ 100 ∧ fb[j].2.size ≤ 200)) (fun t => fb.length - (intOf t).toNat)
      case atStart => exact ⟨0, Nat.zero_le _, rfl, Lib.hid fun j _ h => absurd h (by omega)⟩
      case round =>
        obtain ⟨i, hi, rfl, HI2⟩ := hrel
        by_cases hlt : i < fb.length
        · obtain ⟨b, off, rfl, hbl, hcl⟩ := HSB.out.2 (by omega)
          have i0 : (0 : Int) ≤ (i : Int) := by omega
          have i1 : (i : Int) < (fb.length : Int) := by omega
          obtain ⟨g0, g1⟩ := cells2_get fb i hlt
          have q0 := hcl _ _ g0
          have q1 := hcl _ _ g1
          rw [← Nat.add_assoc] at q1
          have hsm := HSM2.out _ (List.getElem_mem hlt)
          have HNX : Hid (fb[i].1.size ≤ 100 ∧ fb[i].2.size ≤ 200 → ∀ j (h : j < fb.length), j < i + 1 → fb[j].1.size ≤ 100 ∧ fb[j].2.size ≤ 200) := Lib.hid fun hh j hj hji => by
            rcases (by omega : j < i ∨ j = i) with q | rfl
            · exact HI2.out j hj q
            · exact hh
          clear hcl g0 g1
          generalize fb[i] = f at *
          obtain ⟨p, by'⟩ := f
          simp only at q0 q1 hsm
          by_cases h2 : 200 < by'.size
          · have d2 : (200 : Int) < (by'.size : Int) := by omega
            go_wp2_with fail
            go_ret
            exact ⟨rfl, Below.refl _ _⟩
          by_cases h1 : 100 < p.size
          · have d1 : (100 : Int) < (p.size : Int) := by omega
            have d2 : ¬ (200 : Int) < (by'.size : Int) := by omega
            go_wp2_with fail
            go_ret
            exact ⟨rfl, Below.refl _ _⟩
          have d1 : ¬ (100 : Int) < (p.size : Int) := by omega
          have d2 : ¬ (200 : Int) < (by'.size : Int) := by omega
          have HN2 := Lib.hid (HNX.out ⟨by show p.size ≤ 100; omega, by show by'.size ≤ 200; omega⟩)
          go_wp2_with fail
          go_round
          case rel => exact ⟨i + 1, by omega, by go_num, HN2⟩
          case measure => (simp [intOf]) <;> omega
        · have i1 : ¬ (i : Int) < (fb.length : Int) := by omega
          have hie : i = fb.length := by omega
          subst hie
          have hok : ∀ f ∈ fa ++ fb, f.1.size ≤ 100 ∧ f.2.size ≤ 200 := fun f hf => by
            rcases List.mem_append.1 hf with h | h
            · obtain ⟨j, hj, rfl⟩ := List.getElem_of_mem h
              exact HI1.out j hj hj
            · obtain ⟨j, hj, rfl⟩ := List.getElem_of_mem h
              exact HI2.out j hj hj
          have HOK := Lib.hid hok
          have hal : Below w.heap.size w (w.alloc (.cells #[] 55)) := (Below.refl _ _).alloc (Nat.le_refl _) _
          have HOE := Lib.hid (own_made0 w w.heap.size 55 2 (Nat.le_refl _))
          have HSA0 := Lib.hid ((HSA.out.keep hal).more hal.size)
          have HAL := Lib.hid hal
          clear hok hal
          go_wp2_with (first
            | (refine wp_appL (by rfl) _ _ 53 rfl w.heap.size 55 (.agg #[.string ⟨#[]⟩, .string ⟨#[]⟩]) 2 32 Tryd.underlying53 fileInfo rfl (by decide) _ 0 [] rfl HOE.out A fa.length ca (w.alloc (.cells #[] 55)).heap.size (cells2 fa) rfl HSA0.out (cells2_one fa) (by unfold maxLen; omega) (by omega) HAL.out.size ?_; intro v5 w5 ho5 hg5
               rw [Nat.zero_add, List.nil_append] at ho5
               obtain ⟨A5, c5, hv5⟩ : ∃ A c, v5 = .slice A fa.length c := own_shape23 ho5
               subst hv5
               have HB5 := Lib.hid (HAL.out.grown hg5 HAL.out.size (fun k e => (HOE.out.lt k e).1))
               have HO5 := Lib.hid ho5
               have hal5 : Below w5.heap.size w5 (w5.alloc (.cells #[] 55)) := (Below.refl _ _).alloc (Nat.le_refl _) _
               have HOE5 := Lib.hid (own_made0 w5 w5.heap.size 55 2 (Nat.le_refl _))
               have HAL5 := Lib.hid hal5
               have HSB5 := Lib.hid ((((HSB.out.keep HB5.out).more HB5.out.size).keep hal5).more hal5.size)
               clear ho5 hg5 hal5 HOE HSA0)
            | (refine wp_appL (by rfl) _ _ 53 rfl w5.heap.size 55 (.agg #[.string ⟨#[]⟩, .string ⟨#[]⟩]) 2 32 Tryd.underlying53 fileInfo rfl (by decide) _ 0 [] rfl HOE5.out B fb.length cb (w5.alloc (.cells #[] 55)).heap.size (cells2 fb) rfl HSB5.out (cells2_one fb) (by unfold maxLen; omega) (by omega) HAL5.out.size ?_; intro v6 w6 ho6 hg6
               rw [Nat.zero_add, List.nil_append] at ho6
               obtain ⟨A6, c6, hv6⟩ : ∃ A c, v6 = .slice A fb.length c := own_shape23 ho6
               subst hv6
               have hb6 : Below w5.heap.size w5 w6 := HAL5.out.grown hg6 HAL5.out.size (fun k e => (HOE5.out.lt k e).1)
               have HB6 := Lib.hid (HB5.out.trans (hb6.mono HB5.out.size))
               have hpl := progLines_any fa fb A5 A6 c5 c6 w6 (by omega) (by omega) HOK.out (Sl.of_own (own_kept HO5.out hb6)) (Sl.of_own ho6) (HG.out.next HB6.out) (fun u hu => HIT.out u (HB6.out.trans (hu.mono HB6.out.size)))
               have HPL := Lib.hid hpl
               clear ho6 hg6 hb6 hpl HOE5 HSB5 HAL5)
            | (go_at_call 17; refine HPL.out.mono ?_; rintro e w7 ⟨hb7, A7, c7, xs, er, rfl, hx7, hs7⟩
               have HB7 := Lib.hid (HB6.out.trans (hb7.mono HB6.out.size)); have HX7 := Lib.hid hx7; have HS7 := Lib.hid hs7
               have hrl := refTwo_any fa fb A B ca cb w7 (by omega) (by omega) HOK.out ((HSA.out.keep HB7.out).more HB7.out.size) ((HSB.out.keep HB7.out).more HB7.out.size)
               have HRL := Lib.hid hrl
               clear hb7 hx7 hs7 hrl HPL)
            | (go_at_call 18; refine HRL.out.mono ?_; rintro e w8 ⟨hb8, A8, c8, ys, er', rfl, hx8, hs8⟩
               have HB8 := Lib.hid (HB7.out.trans (hb8.mono HB7.out.size))
               obtain ⟨rfl, hxy, hln⟩ := lines_same HX7.out hx8
               have be : ((er : Int) == er) = true := beq_self_eq_true _
               have htx := texts_any xs ys A7 A8 c7 c8 w8 ((HS7.out.keep hb8).more hb8.size) hs8 (by omega)
               rw [decide_eq_true hxy] at htx
               have HTX := Lib.hid htx
               clear hb8 hx8 hs8 htx HRL)
            | (go_at_call 19; refine HTX.out.mono ?_; rintro e w9 ⟨hb9, rfl⟩
               have HB9 := Lib.hid (HB8.out.trans (hb9.mono HB8.out.size))
               have haw := awake23_any w9 (HG.out.next HB9.out)
               have HAW := Lib.hid haw
               clear hb9 haw HTX)
            | (go_at_call 20; refine HAW.out.mono ?_; rintro e w10 ⟨hb10, rfl⟩))
          go_ret
          exact ⟨rfl, HB9.out.trans (hb10.mono HB9.out.size)⟩
end Go.Proofs.YthjaepmfkgejkaaDoor.hunkFiles
