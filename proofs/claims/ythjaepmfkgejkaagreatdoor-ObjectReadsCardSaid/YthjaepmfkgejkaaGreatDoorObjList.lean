/-
  What the reader's list reads, one by one. Conditions: what one reading does is handed in.
-/
import Derived.Test.YthjaepmfkgejkaaGreatDoorObjReader
namespace Go.Proofs.YthjaepmfkgejkaaGreatDoor
open Go.RowKit Go.Maps
set_option linter.unusedVariables false
set_option linter.unusedSimpArgs false

/-- What is left to read decides. -/
def LRest {α : Type} (p : Ps α) (l : List UInt8) (n k1 i a : Nat) (xs : List α) : Prop := pMany p n (l.drop k1) = (pMany p (n - i) (l.drop a)).map fun q => (xs ++ q.1, q.2)
theorem LRest.start {α : Type} (p : Ps α) (l : List UInt8) (n k1 : Nat) : LRest p l n k1 0 k1 [] := by
  unfold LRest
  rw [Nat.sub_zero]
  cases pMany p n (l.drop k1) <;> simp
theorem LRest.next {α : Type} {p : Ps α} {l : List UInt8} {n k1 i a a2 : Nat} {xs : List α} {x : α} (h : LRest p l n k1 i a xs) (hi : i < n) (hx : p (l.drop a) = some (x, l.drop a2)) : LRest p l n k1 (i + 1) a2 (xs ++ [x]) := by
  unfold LRest at h ⊢
  rw [h, show n - i = (n - (i + 1)) + 1 by omega]
  show Option.map _ (pBind p _ (l.drop a)) = _
  rw [pBind_at hx]
  unfold pBind
  rcases pMany p (n - (i + 1)) (l.drop a2) with _ | ⟨ys, r⟩
  · rfl
  · simp [pRet]
theorem LRest.fail {α : Type} {p : Ps α} {l : List UInt8} {n k1 i a : Nat} {xs : List α} (h : LRest p l n k1 i a xs) (hi : i < n) (hx : p (l.drop a) = none) : pMany p n (l.drop k1) = none := by
  unfold LRest at h
  rw [h, show n - i = (n - (i + 1)) + 1 by omega]
  show Option.map _ (pBind p _ (l.drop a)) = _
  unfold pBind
  rw [hx]
  rfl
theorem LRest.end {α : Type} {p : Ps α} {l : List UInt8} {n k1 i a : Nat} {xs : List α} (h : LRest p l n k1 i a xs) (hi : n ≤ i) : pMany p n (l.drop k1) = some (xs, l.drop a) := by
  unfold LRest at h
  rw [h, show n - i = 0 by omega]
  simp [pMany, pRet]
/-- What reading so many gives. -/
def LGives {α : Type} (p : Ps α) (l : List UInt8) (most at' : Nat) (J : Nat → List α → World → Prop) (F : World → Prop) (e : Ending) (w' : World) : Prop :=
  match pList most p (l.drop at') with
  | some (xs, r) => e = .returned (.tuple #[]) ∧ ∃ a, at' ≤ a ∧ r = l.drop a ∧ xs.length ≤ most ∧ J a xs w'
  | none => e = .panicked wrongP ∧ F w'
theorem LGives.no {α : Type} {p : Ps α} {l : List UInt8} {most at' : Nat} {J : Nat → List α → World → Prop} {F : World → Prop} {e : Ending} {w' : World} (h : pList most p (l.drop at') = none) (he : e = .panicked wrongP) (hF : F w') : LGives p l most at' J F e w' := by
  unfold LGives; rw [h]; exact ⟨he, hF⟩
theorem LGives.yes {α : Type} {p : Ps α} {l : List UInt8} {most at' a : Nat} {xs : List α} {J : Nat → List α → World → Prop} {F : World → Prop} {e : Ending} {w' : World} (h : pList most p (l.drop at') = some (xs, l.drop a)) (he : e = .returned (.tuple #[])) (ha : at' ≤ a) (hl : xs.length ≤ most) (hJ : J a xs w') : LGives p l most at' J F e w' := by
  unfold LGives; rw [h]; exact ⟨he, a, ha, rfl, hl, hJ⟩
/-- What a closure that reads one does. -/
def UnoGives {α : Type} (p : Ps α) (l : List UInt8) (J : Nat → List α → World → Prop) (F : World → Prop) (a : Nat) (xs : List α) (e : Ending) (w' : World) : Prop :=
  match p (l.drop a) with
  | some (x, r) => e = .returned (.tuple #[]) ∧ ∃ a2, a ≤ a2 ∧ r = l.drop a2 ∧ J a2 (xs ++ [x]) w'
  | none => e = .panicked wrongP ∧ F w'
theorem UnoGives.ok {α : Type} {p : Ps α} {l : List UInt8} {J : Nat → List α → World → Prop} {F : World → Prop} {a : Nat} {xs : List α} {e : Ending} {w' : World} {x : α} {r : List UInt8} (h : UnoGives p l J F a xs e w') (hp : p (l.drop a) = some (x, r)) : e = .returned (.tuple #[]) ∧ ∃ a2, a ≤ a2 ∧ r = l.drop a2 ∧ J a2 (xs ++ [x]) w' := by
  unfold UnoGives at h; rw [hp] at h; exact h
theorem UnoGives.bad {α : Type} {p : Ps α} {l : List UInt8} {J : Nat → List α → World → Prop} {F : World → Prop} {a : Nat} {xs : List α} {e : Ending} {w' : World} (h : UnoGives p l J F a xs e w') (hp : p (l.drop a) = none) : e = .panicked wrongP ∧ F w' := by
  unfold UnoGives at h; rw [hp] at h; exact h
theorem UnoGives.no {α : Type} {p : Ps α} {l : List UInt8} {J : Nat → List α → World → Prop} {F : World → Prop} {a : Nat} {xs : List α} {e : Ending} {w' : World} (hp : p (l.drop a) = none) (he : e = .panicked wrongP) (hF : F w') : UnoGives p l J F a xs e w' := by
  unfold UnoGives; rw [hp]; exact ⟨he, hF⟩
theorem UnoGives.yes {α : Type} {p : Ps α} {l : List UInt8} {J : Nat → List α → World → Prop} {F : World → Prop} {a a2 : Nat} {xs : List α} {e : Ending} {w' : World} {x : α} (hp : p (l.drop a) = some (x, l.drop a2)) (he : e = .returned (.tuple #[])) (ha : a ≤ a2) (hJ : J a2 (xs ++ [x]) w') : UnoGives p l J F a xs e w' := by
  unfold UnoGives; rw [hp]; exact ⟨he, a2, ha, rfl, hJ⟩
set_option maxHeartbeats 4000000 in
set_option maxRecDepth 100000 in
theorem rlist_ids (g b off c : Nat) (l : List UInt8) (at' : Nat) (w : World) (hr : RdAt w g b off c l at') (hl : l.length ≤ 1099511627776) (most : Nat) (hmost : most ≤ 1099511627776) (c1 c2 : Value) (J : Nat → List (List UInt8) → World → Prop) (F : World → Prop)
    (h0 : ∀ a w1, at' ≤ a → But (fun k => k = g) w w1 → RdAt w1 g b off c l a → J a [] w1) (hF : ∀ w1, But (fun k => k = g) w w1 → F w1)
    (h1 : ∀ a xs w1, xs.length < most → J a xs w1 → Calls Tryz.prog 88 #[c1, c2] w1 (UnoGives pId l J F a xs)) (hJF : ∀ a xs w1, J a xs w1 → F w1) :
    Calls Tryz.prog 54 #[.pointer (some ⟨g, 0, none⟩), .int .i64 (most : Int), .func (.func 88) #[] #[c1, c2]] w (LGives pId l most at' J F) := by
  have HRD := Lib.hid hr; have H0 := Lib.hid h0; have HF := Lib.hid hF; have H1 := Lib.hid h1; have HJF := Lib.hid hJF
  clear hr h0 hF h1 hJF
  rcases hp1 : pNum (l.drop at') with _ | ⟨n, r1⟩
  · have HP : Hid (pList most pId (l.drop at') = none) := Lib.hid (by unfold pList pBind; rw [hp1])
    have HP1 := Lib.hid hp1
    clear hp1
    go_enter Tryz.func54, Tryz.ntmps54
    go_wp2_with (first
      | (go_at_call 51; refine (rnum_any g b off c l at' w HRD.out hl).mono ?_; rintro e w1 hgv
         obtain ⟨rfl, hbt⟩ := hgv.bad HP1.out))
    exact ⟨rfl, LGives.no HP.out rfl (HF.out _ hbt)⟩
  · have hn63 : n < 9223372036854775808 := (num_cut hp1).2
    have HP1 := Lib.hid hp1
    by_cases hnm : n ≤ most
    · have dn : decide ((n : Int) ≤ (most : Int)) = true := by simp; omega
      obtain ⟨k0, rfl⟩ : ∃ k0, r1 = l.drop k0 := by
        unfold pNum at hp1
        split at hp1
        · cases hp1; rw [List.drop_drop]; exact ⟨_, rfl⟩
        · cases hp1
      have HPL : Hid (pList most pId (l.drop at') = pMany pId n (l.drop k0)) := Lib.hid (by unfold pList; rw [pBind_at HP1.out]; unfold pNeed; rw [if_pos (by simpa using hnm)])
      clear hp1
      go_enter Tryz.func54, Tryz.ntmps54
      go_wp2_with (first
        | (go_at_call 51; refine (rnum_any g b off c l at' w HRD.out hl).mono ?_; rintro e w1 hgv
           obtain ⟨v, k1, rfl, hle, hr1, hrd1, hbt, rfl⟩ := hgv.ok HP1.out
           have HR1 := Lib.hid hr1; have HRD1 := Lib.hid hrd1; have HB1 := Lib.hid hbt; have HLE1 := Lib.hid hle
           clear hrd1 hbt hle hr1
           clear hgv)
        | (go_at_call 57; refine (need_yes _).mono ?_; rintro e w2 ⟨rfl, rfl⟩))
      have HPL1 : Hid (pList most pId (l.drop at') = pMany pId n (l.drop k1)) := Lib.hid (by rw [HPL.out, HR1.out])
      go_loopw [14] (fun t wr => ∃ i : Nat, i ≤ n ∧ t = .int .i64 (i : Int) ∧ Hid (∃ xs a, xs.length = i ∧ at' ≤ a ∧ J a xs wr ∧ LRest pId l n k1 i a xs)) (fun t _ => n - (intOf t).toNat)
      case atStart => exact ⟨0, Nat.zero_le _, rfl, Lib.hid ⟨[], k1, rfl, HLE1.out, H0.out _ _ HLE1.out HB1.out HRD1.out, LRest.start _ _ _ _⟩⟩
      case round =>
        obtain ⟨i, hi, rfl, HS⟩ := hrel
        obtain ⟨xs, a, hxl, hla, hJ, hR⟩ := HS.out
        have HXL := Lib.hid hxl; have HLA := Lib.hid hla; have HJ := Lib.hid hJ; have HR := Lib.hid hR
        clear hxl hla hJ hR
        by_cases hlt : i < n
        · have i1 : (i : Int) < (n : Int) := by omega
          rcases hpx : pId (l.drop a) with _ | ⟨x, r⟩
          · have HPX := Lib.hid hpx
            clear hpx
            go_wp2_with (first
              | (go_at_call 88; refine (H1.out a xs _ (by have := HXL.out; omega) HJ.out).mono ?_; rintro e w3 hgv
                 obtain ⟨rfl, hF3⟩ := hgv.bad HPX.out))
            exact ⟨rfl, LGives.no (by rw [HPL1.out]; exact HR.out.fail hlt HPX.out) rfl hF3⟩
          · have HPX := Lib.hid hpx
            clear hpx
            go_wp2_with (first
              | (go_at_call 88; refine (H1.out a xs _ (by have := HXL.out; omega) HJ.out).mono ?_; rintro e w3 hgv
                 obtain ⟨rfl, a2, hla2, hr2, hJ2⟩ := hgv.ok HPX.out
                 have HJ2 := Lib.hid hJ2; have HLA2 := Lib.hid hla2; have HR2 := Lib.hid (HR.out.next hlt (HPX.out.trans (by rw [hr2])))
                 clear hgv hJ2 hla2 hr2))
            go_roundw
            case rel => exact ⟨i + 1, by omega, by go_num, Lib.hid ⟨xs ++ [x], a2, by rw [List.length_append, HXL.out]; rfl, Nat.le_trans HLA.out HLA2.out, HJ2.out, HR2.out⟩⟩
            case measure => (simp [intOf]) <;> omega
        · have i1 : ¬ (i : Int) < (n : Int) := by omega
          have HE : Hid (pList most pId (l.drop at') = some (xs, l.drop a)) := Lib.hid (by rw [HPL1.out]; exact HR.out.end (by omega))
          have hxm : xs.length ≤ most := by have := HXL.out; omega
          go_wp2_with fail
          go_end0
          exact LGives.yes HE.out rfl HLA.out hxm HJ.out
    · have HP : Hid (pList most pId (l.drop at') = none) := Lib.hid (by unfold pList pBind; rw [hp1]; unfold pNeed; simp [hnm])
      have dn : decide ((n : Int) ≤ (most : Int)) = false := by simp; omega
      clear hp1
      go_enter Tryz.func54, Tryz.ntmps54
      go_wp2_with (first
        | (go_at_call 51; refine (rnum_any g b off c l at' w HRD.out hl).mono ?_; rintro e w1 hgv
           obtain ⟨v, k1, rfl, hle, hr1, hrd1, hbt, rfl⟩ := hgv.ok HP1.out
           have HB1 := Lib.hid hbt
           clear hrd1 hbt
           clear hgv)
        | (go_at_call 57; refine (need_no _).mono ?_; rintro e w2 ⟨rfl, rfl⟩))
      exact ⟨rfl, LGives.no HP.out rfl (HF.out _ HB1.out)⟩
set_option maxHeartbeats 4000000 in
set_option maxRecDepth 100000 in
theorem rlist_ops (g b off c : Nat) (l : List UInt8) (at' : Nat) (w : World) (hr : RdAt w g b off c l at') (hl : l.length ≤ 1099511627776) (most : Nat) (hmost : most ≤ 1099511627776) (deps : List (List UInt8)) (c1 c2 : Value) (J : Nat → List OpD → World → Prop) (F : World → Prop)
    (h0 : ∀ a w1, at' ≤ a → But (fun k => k = g) w w1 → RdAt w1 g b off c l a → J a [] w1) (hF : ∀ w1, But (fun k => k = g) w w1 → F w1)
    (h1 : ∀ a xs w1, xs.length < most → J a xs w1 → Calls Tryz.prog 55 #[c1, c2] w1 (UnoGives (pOp deps) l J F a xs)) (hJF : ∀ a xs w1, J a xs w1 → F w1) :
    Calls Tryz.prog 54 #[.pointer (some ⟨g, 0, none⟩), .int .i64 (most : Int), .func (.func 55) #[] #[c1, c2]] w (LGives (pOp deps) l most at' J F) := by
  have HRD := Lib.hid hr; have H0 := Lib.hid h0; have HF := Lib.hid hF; have H1 := Lib.hid h1; have HJF := Lib.hid hJF
  clear hr h0 hF h1 hJF
  rcases hp1 : pNum (l.drop at') with _ | ⟨n, r1⟩
  · have HP : Hid (pList most (pOp deps) (l.drop at') = none) := Lib.hid (by unfold pList pBind; rw [hp1])
    have HP1 := Lib.hid hp1
    clear hp1
    go_enter Tryz.func54, Tryz.ntmps54
    go_wp2_with (first
      | (go_at_call 51; refine (rnum_any g b off c l at' w HRD.out hl).mono ?_; rintro e w1 hgv
         obtain ⟨rfl, hbt⟩ := hgv.bad HP1.out))
    exact ⟨rfl, LGives.no HP.out rfl (HF.out _ hbt)⟩
  · have hn63 : n < 9223372036854775808 := (num_cut hp1).2
    have HP1 := Lib.hid hp1
    by_cases hnm : n ≤ most
    · have dn : decide ((n : Int) ≤ (most : Int)) = true := by simp; omega
      obtain ⟨k0, rfl⟩ : ∃ k0, r1 = l.drop k0 := by
        unfold pNum at hp1
        split at hp1
        · cases hp1; rw [List.drop_drop]; exact ⟨_, rfl⟩
        · cases hp1
      have HPL : Hid (pList most (pOp deps) (l.drop at') = pMany (pOp deps) n (l.drop k0)) := Lib.hid (by unfold pList; rw [pBind_at HP1.out]; unfold pNeed; rw [if_pos (by simpa using hnm)])
      clear hp1
      go_enter Tryz.func54, Tryz.ntmps54
      go_wp2_with (first
        | (go_at_call 51; refine (rnum_any g b off c l at' w HRD.out hl).mono ?_; rintro e w1 hgv
           obtain ⟨v, k1, rfl, hle, hr1, hrd1, hbt, rfl⟩ := hgv.ok HP1.out
           have HR1 := Lib.hid hr1; have HRD1 := Lib.hid hrd1; have HB1 := Lib.hid hbt; have HLE1 := Lib.hid hle
           clear hrd1 hbt hle hr1
           clear hgv)
        | (go_at_call 57; refine (need_yes _).mono ?_; rintro e w2 ⟨rfl, rfl⟩))
      have HPL1 : Hid (pList most (pOp deps) (l.drop at') = pMany (pOp deps) n (l.drop k1)) := Lib.hid (by rw [HPL.out, HR1.out])
      go_loopw [14] (fun t wr => ∃ i : Nat, i ≤ n ∧ t = .int .i64 (i : Int) ∧ Hid (∃ xs a, xs.length = i ∧ at' ≤ a ∧ J a xs wr ∧ LRest (pOp deps) l n k1 i a xs)) (fun t _ => n - (intOf t).toNat)
      case atStart => exact ⟨0, Nat.zero_le _, rfl, Lib.hid ⟨[], k1, rfl, HLE1.out, H0.out _ _ HLE1.out HB1.out HRD1.out, LRest.start _ _ _ _⟩⟩
      case round =>
        obtain ⟨i, hi, rfl, HS⟩ := hrel
        obtain ⟨xs, a, hxl, hla, hJ, hR⟩ := HS.out
        have HXL := Lib.hid hxl; have HLA := Lib.hid hla; have HJ := Lib.hid hJ; have HR := Lib.hid hR
        clear hxl hla hJ hR
        by_cases hlt : i < n
        · have i1 : (i : Int) < (n : Int) := by omega
          rcases hpx : (pOp deps) (l.drop a) with _ | ⟨x, r⟩
          · have HPX := Lib.hid hpx
            clear hpx
            go_wp2_with (first
              | (go_at_call 55; refine (H1.out a xs _ (by have := HXL.out; omega) HJ.out).mono ?_; rintro e w3 hgv
                 obtain ⟨rfl, hF3⟩ := hgv.bad HPX.out))
            exact ⟨rfl, LGives.no (by rw [HPL1.out]; exact HR.out.fail hlt HPX.out) rfl hF3⟩
          · have HPX := Lib.hid hpx
            clear hpx
            go_wp2_with (first
              | (go_at_call 55; refine (H1.out a xs _ (by have := HXL.out; omega) HJ.out).mono ?_; rintro e w3 hgv
                 obtain ⟨rfl, a2, hla2, hr2, hJ2⟩ := hgv.ok HPX.out
                 have HJ2 := Lib.hid hJ2; have HLA2 := Lib.hid hla2; have HR2 := Lib.hid (HR.out.next hlt (HPX.out.trans (by rw [hr2])))
                 clear hgv hJ2 hla2 hr2))
            go_roundw
            case rel => exact ⟨i + 1, by omega, by go_num, Lib.hid ⟨xs ++ [x], a2, by rw [List.length_append, HXL.out]; rfl, Nat.le_trans HLA.out HLA2.out, HJ2.out, HR2.out⟩⟩
            case measure => (simp [intOf]) <;> omega
        · have i1 : ¬ (i : Int) < (n : Int) := by omega
          have HE : Hid (pList most (pOp deps) (l.drop at') = some (xs, l.drop a)) := Lib.hid (by rw [HPL1.out]; exact HR.out.end (by omega))
          have hxm : xs.length ≤ most := by have := HXL.out; omega
          go_wp2_with fail
          go_end0
          exact LGives.yes HE.out rfl HLA.out hxm HJ.out
    · have HP : Hid (pList most (pOp deps) (l.drop at') = none) := Lib.hid (by unfold pList pBind; rw [hp1]; unfold pNeed; simp [hnm])
      have dn : decide ((n : Int) ≤ (most : Int)) = false := by simp; omega
      clear hp1
      go_enter Tryz.func54, Tryz.ntmps54
      go_wp2_with (first
        | (go_at_call 51; refine (rnum_any g b off c l at' w HRD.out hl).mono ?_; rintro e w1 hgv
           obtain ⟨v, k1, rfl, hle, hr1, hrd1, hbt, rfl⟩ := hgv.ok HP1.out
           have HB1 := Lib.hid hbt
           clear hrd1 hbt
           clear hgv)
        | (go_at_call 57; refine (need_no _).mono ?_; rintro e w2 ⟨rfl, rfl⟩))
      exact ⟨rfl, LGives.no HP.out rfl (HF.out _ HB1.out)⟩
end Go.Proofs.YthjaepmfkgejkaaGreatDoor
