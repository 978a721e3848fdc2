/-
  What the reference's Runes and Is give, and the two Bytes of layer 7. Condition: a text of at most 2^40 bytes (Runes makes a list).
  What the reader's list reads, one by one. Conditions: what one reading does is handed in.
  What leb.GetId gives: an id's 32 bytes. Conditions: the place lies within the bytes.
-/
import Derived.Test.YthjaepmfkgejkaaGreatDoorMerged6
import Derived.Test.YthjaepmfkgejkaaGreatDoorMerged1
import Derived.Test.YthjaepmfkgejkaaGreatDoorMerged13
import Derived.Test.YthjaepmfkgejkaaGreatDoorLebWalks
import Derived.Laws.CopyOwn
import Derived.Deep.RegionLaw
import Derived.Deep.CutRange
set_option linter.unusedVariables false
set_option linter.unusedSimpArgs false
set_option maxHeartbeats 4000000
set_option maxRecDepth 100000
namespace Go.Proofs.YthjaepmfkgejkaaGreatDoor
open Lib (hid)
open Go.RowKit
theorem info_i32 : (Tryz.prog.info? 21).map (fun i => (i.zero, i.size, i.bytes)) = some (some (.int .i32 0), 1, 4) := by kernel_rfl
def i32s (l : List Nat) : List Value := l.map fun (r : Nat) => Value.int .i32 (r : Int)
def RunesGives (s : ByteArray) (w : World) (e : Ending) (w' : World) : Prop :=
  Below w.heap.size w w' ∧ ((∃ l A c, zU s = some l ∧ e = .returned (.tuple #[.slice A l.length c, .int .i64 0, .int .i64 0]) ∧ Sl w' w'.heap.size A l.length 1 (i32s l)) ∨
    zU s = none ∧ ∃ n : Int, e = .returned (.tuple #[.slice none 0 0, .int .i64 n, .int .i64 5]))
theorem own_form {w : World} {base : Nat} {e : TypeId} {sz : Nat} {v : Value} {n : Nat} {xs : List Value} (h : w.ownsRow base e sz v n xs) : ∃ A c, v = .slice A n c := by
  rcases h.2 with ⟨hv, h0⟩ | ⟨g, cap, cur, hv, _⟩
  · exact ⟨none, 0, by rw [hv, h0]⟩
  · exact ⟨_, _, hv⟩
theorem Zr (s : ByteArray) (w : World) (hs : s.size ≤ 1099511627776) : Calls Tryz.prog 45 #[.string s] w (RunesGives s w) := by
  have hs' : s.size ≤ maxLen := by unfold maxLen; omega
  go_enter Tryz.func45, Tryz.ntmps45
  go_wp2
  go_loopw [5, 6] (fun v n wr => ∃ (k : Nat) (l : List Nat), k ≤ s.size ∧ l.length ≤ k ∧ n = .int .i64 k ∧ wr.ownsRow w.heap.size 21 1 v l.length (i32s l) ∧ Below w.heap.size w wr ∧ Hid (zU s = (jn s k).map (l ++ ·))) (fun _ n _ => s.size - (intOf n).toNat)
  case atStart => exact ⟨0, [], by omega, by simp, rfl, World.ownsRow_nil _ _ _ _, Below.refl _ _, hid (by rw [vP]; simp)⟩
  case round =>
    obtain ⟨k, l, hk, hl, rfl, hown, hbw, hR⟩ := hrel
    by_cases hlt : k < s.size
    ·
     have hin := JP hlt
     go_wp2_with fail
     refine (one_any s k _ hlt hs').mono ?_
     rintro e w1 ⟨hb1, ⟨ho, rfl⟩ | ⟨ho, rfl⟩⟩
     ·
      have HO := hid ho; clear ho
      have hr := decode_le s k
      have hbw1 : Below w.heap.size w w1 := hbw.trans (hb1.mono hbw.size)
      have hown1 : w1.ownsRow w.heap.size 21 1 u5 l.length (i32s l) := by
        refine hown.kept (row := none) ⟨hb1.os, hb1.tape, hb1.output, hb1.size, fun j hj _ => hb1.block j hj⟩ ?_
        rcases h : u5.ownBlock with _ | g
        · exact .inl rfl
        · exact .inr (by simp)
      have hne : (((Utf8.decode s k).2 : Int) == 0) = false := by simp; omega
      go_wp2_with (at_builtin; refine Ko rfl _ _ 91 rfl w.heap.size 21 (.int .i32 0) 4 Tryz.underlying91 info_i32 rfl _ _ _ rfl hown1 _ _ rfl rfl ?c1 ?c2 ?c3 ?_)
      case c1 => unfold maxLen; omega
      case c2 => omega
      case c3 => exact hbw1.size
      intro v' w2 hown2 hbel
      have hb2 := hbel _ _ (Nat.le_refl _) hbw1
      clear hbel
      go_wp2_with fail
      go_roundw
      case rel =>
        refine ⟨k + (Utf8.decode s k).2, l ++ [(Utf8.decode s k).1], by omega, by simp; omega, by go_num, ?_, hb2, hid ?_⟩
        · simpa [i32s] using hown2
        · rw [hR.out, Jc hlt HO.out]
          cases jn s (k + (Utf8.decode s k).2) <;> simp
      case measure => simp [intOf]; omega
     ·
      have HO := hid ho; clear ho
      go_wp2_with fail
      go_ret3
      refine ⟨hbw.trans (hb1.mono hbw.size), .inr ⟨by rw [hR.out, Z2 hlt HO.out]; rfl, _, rfl⟩⟩
    ·
     go_wp2_with fail
     go_ret3
     obtain ⟨A, c, hv⟩ := own_form hown
     refine ⟨hbw, .inl ⟨l, A, c, by rw [hR.out, KN (by omega)]; simp, ?_, ?_⟩⟩
     · rw [← hv]; rfl
     · rw [hv] at hown
       exact Sl.of_own hown
theorem is_any (s : ByteArray) (w : World) (hs : s.size ≤ 1099511627776) : Calls Tryz.prog 111 #[.string s] w fun e w' => Below w.heap.size w w' ∧ e = .returned (.bool (zG s)) := by
  go_enter Tryz.func111, Tryz.ntmps111
  go_wp2_with fail
  refine (Zr s _ hs).mono ?_
  rintro e w1 ⟨hb1, ⟨l, A, c, hl, rfl, hsl⟩ | ⟨hl, n, rfl⟩⟩
  ·
   have HL := hid hl; clear hl
   go_wp2_with fail
   go_ret
   exact ⟨hb1, by unfold zG; rw [HL.out]; rfl⟩
  ·
   have HL := hid hl; clear hl
   go_wp2_with fail
   go_ret
   exact ⟨hb1, by unfold zG; rw [HL.out]; rfl⟩
def zS (s : ByteArray) : Int := if 4096 < s.size then 2 else if zG s then 0 else 5
theorem Q0 (s : ByteArray) (w : World) (hs : s.size ≤ maxLen) : Calls Tryz.prog 103 #[.string s] w fun e w' => w = w' ∧ e = .returned (.int .i64 (zS s)) := by
  by_cases h : 4096 < s.size
  ·
   rw [show zS s = 2 by simp [zS, h]]
   go_enter Tryz.func103, Tryz.ntmps103
   go_wp2_with fail
   go_ret
   exact ⟨rfl, rfl⟩
  ·
   go_enter Tryz.func103, Tryz.ntmps103
   go_wp2_with fail
   refine (Zi s _ hs).mono ?_
   rintro e w1 ⟨rfl, ⟨ht, rfl⟩ | ⟨ht, n, rfl⟩⟩
   ·
    have HT := hid ht; clear ht
    go_wp2_with fail
    go_ret
    exact ⟨rfl, by simp [zS, h, HT.out]⟩
   ·
    have HT := hid ht; clear ht
    go_wp2_with fail
    go_ret
    exact ⟨rfl, by simp [zS, h, HT.out]⟩
theorem Kt (s : ByteArray) (w : World) : Calls Tryz.prog 110 #[.string s] w fun e w' => Below w.heap.size w w' ∧ e = .returned (.int .i64 (zS s)) := by
  by_cases h : 4096 < s.size
  ·
   rw [show zS s = 2 by simp [zS, h]]
   go_enter Tryz.func110, Tryz.ntmps110
   go_wp2_with fail
   go_ret
   exact ⟨Below.refl _ _, rfl⟩
  ·
   have hs : s.size ≤ 1099511627776 := by omega
   go_enter Tryz.func110, Tryz.ntmps110
   go_wp2_with fail
   refine (is_any s _ hs).mono ?_
   rintro e w1 ⟨hb1, rfl⟩
   cases ht : zG s
   ·
    have HT := hid ht; clear ht
    go_wp2_with fail
    go_ret
    exact ⟨hb1, by simp [zS, h, HT.out]⟩
   ·
    have HT := hid ht; clear ht
    go_wp2_with fail
    go_ret
    exact ⟨hb1, by simp [zS, h, HT.out]⟩
end Go.Proofs.YthjaepmfkgejkaaGreatDoor
namespace Go.Proofs.YthjaepmfkgejkaaGreatDoor
open Lib (hid)
open Go.RowKit Go.Maps
def LRest {α : Type} (p : Ps α) (l : List UInt8) (n k1 i a : Nat) (xs : List α) : Prop := Z4 p n (l.drop k1) = (Z4 p (n - i) (l.drop a)).map fun q => (xs ++ q.1, q.2)
theorem LRest.start {α : Type} (p : Ps α) (l : List UInt8) (n k1 : Nat) : LRest p l n k1 0 k1 [] := by
  unfold LRest
  rw [Nat.sub_zero]
  cases Z4 p n (l.drop k1) <;> simp
theorem LRest.next {α : Type} {p : Ps α} {l : List UInt8} {n k1 i a a2 : Nat} {xs : List α} {x : α} (h : LRest p l n k1 i a xs) (hi : i < n) (hx : p (l.drop a) = some (x, l.drop a2)) : LRest p l n k1 (i + 1) a2 (xs ++ [x]) := by
  unfold LRest at h ⊢
  rw [h, show n - i = (n - (i + 1)) + 1 by omega]
  show Option.map _ (kP p _ (l.drop a)) = _
  rw [kF hx]
  unfold kP
  rcases Z4 p (n - (i + 1)) (l.drop a2) with _ | ⟨ys, r⟩
  · rfl
  · simp [uQ]
theorem LRest.fail {α : Type} {p : Ps α} {l : List UInt8} {n k1 i a : Nat} {xs : List α} (h : LRest p l n k1 i a xs) (hi : i < n) (hx : p (l.drop a) = none) : Z4 p n (l.drop k1) = none := by
  unfold LRest at h
  rw [h, show n - i = (n - (i + 1)) + 1 by omega]
  show Option.map _ (kP p _ (l.drop a)) = _
  unfold kP
  rw [hx]
  rfl
theorem LRest.end {α : Type} {p : Ps α} {l : List UInt8} {n k1 i a : Nat} {xs : List α} (h : LRest p l n k1 i a xs) (hi : n ≤ i) : Z4 p n (l.drop k1) = some (xs, l.drop a) := by
  unfold LRest at h
  rw [h, show n - i = 0 by omega]
  simp [Z4, uQ]
def LGives {α : Type} (p : Ps α) (l : List UInt8) (most at' : Nat) (J : Nat → List α → World → Prop) (F : World → Prop) (e : Ending) (w' : World) : Prop :=
  match kY most p (l.drop at') with
  | some (xs, r) => e = .returned (.tuple #[]) ∧ ∃ a, at' ≤ a ∧ r = l.drop a ∧ xs.length ≤ most ∧ J a xs w'
  | none => e = .panicked Kl ∧ F w'
theorem LGives.no {α : Type} {p : Ps α} {l : List UInt8} {most at' : Nat} {J : Nat → List α → World → Prop} {F : World → Prop} {e : Ending} {w' : World} (h : kY most p (l.drop at') = none) (he : e = .panicked Kl) (hF : F w') : LGives p l most at' J F e w' := by
  unfold LGives; rw [h]; exact ⟨he, hF⟩
theorem LGives.yes {α : Type} {p : Ps α} {l : List UInt8} {most at' a : Nat} {xs : List α} {J : Nat → List α → World → Prop} {F : World → Prop} {e : Ending} {w' : World} (h : kY most p (l.drop at') = some (xs, l.drop a)) (he : e = .returned (.tuple #[])) (ha : at' ≤ a) (hl : xs.length ≤ most) (hJ : J a xs w') : LGives p l most at' J F e w' := by
  unfold LGives; rw [h]; exact ⟨he, a, ha, rfl, hl, hJ⟩
def UnoGives {α : Type} (p : Ps α) (l : List UInt8) (J : Nat → List α → World → Prop) (F : World → Prop) (a : Nat) (xs : List α) (e : Ending) (w' : World) : Prop :=
  match p (l.drop a) with
  | some (x, r) => e = .returned (.tuple #[]) ∧ ∃ a2, a ≤ a2 ∧ r = l.drop a2 ∧ J a2 (xs ++ [x]) w'
  | none => e = .panicked Kl ∧ F w'
theorem UnoGives.ok {α : Type} {p : Ps α} {l : List UInt8} {J : Nat → List α → World → Prop} {F : World → Prop} {a : Nat} {xs : List α} {e : Ending} {w' : World} {x : α} {r : List UInt8} (h : UnoGives p l J F a xs e w') (hp : p (l.drop a) = some (x, r)) : e = .returned (.tuple #[]) ∧ ∃ a2, a ≤ a2 ∧ r = l.drop a2 ∧ J a2 (xs ++ [x]) w' := by
  unfold UnoGives at h; rw [hp] at h; exact h
theorem UnoGives.bad {α : Type} {p : Ps α} {l : List UInt8} {J : Nat → List α → World → Prop} {F : World → Prop} {a : Nat} {xs : List α} {e : Ending} {w' : World} (h : UnoGives p l J F a xs e w') (hp : p (l.drop a) = none) : e = .panicked Kl ∧ F w' := by
  unfold UnoGives at h; rw [hp] at h; exact h
theorem UnoGives.no {α : Type} {p : Ps α} {l : List UInt8} {J : Nat → List α → World → Prop} {F : World → Prop} {a : Nat} {xs : List α} {e : Ending} {w' : World} (hp : p (l.drop a) = none) (he : e = .panicked Kl) (hF : F w') : UnoGives p l J F a xs e w' := by
  unfold UnoGives; rw [hp]; exact ⟨he, hF⟩
theorem UnoGives.yes {α : Type} {p : Ps α} {l : List UInt8} {J : Nat → List α → World → Prop} {F : World → Prop} {a a2 : Nat} {xs : List α} {e : Ending} {w' : World} {x : α} (hp : p (l.drop a) = some (x, l.drop a2)) (he : e = .returned (.tuple #[])) (ha : a ≤ a2) (hJ : J a2 (xs ++ [x]) w') : UnoGives p l J F a xs e w' := by
  unfold UnoGives; rw [hp]; exact ⟨he, a2, ha, rfl, hJ⟩
theorem rlist_ids (g b off c : Nat) (l : List UInt8) (at' : Nat) (w : World) (hr : RdAt w g b off c l at') (hl : l.length ≤ 1099511627776) (most : Nat) (hmost : most ≤ 1099511627776) (c1 c2 : Value) (J : Nat → List (List UInt8) → World → Prop) (F : World → Prop)
    (h0 : ∀ a w1, at' ≤ a → But (fun k => k = g) w w1 → RdAt w1 g b off c l a → J a [] w1) (hF : ∀ w1, But (fun k => k = g) w w1 → F w1)
    (h1 : ∀ a xs w1, xs.length < most → J a xs w1 → Calls Tryz.prog 88 #[c1, c2] w1 (UnoGives pId l J F a xs)) (hJF : ∀ a xs w1, J a xs w1 → F w1) :
    Calls Tryz.prog 54 #[.pointer (some ⟨g, 0, none⟩), .int .i64 (most : Int), .func (.func 88) #[] #[c1, c2]] w (LGives pId l most at' J F) := by
  have HRD := hid hr; have H0 := hid h0; have HF := hid hF; have H1 := hid h1; have HJF := hid hJF
  clear hr h0 hF h1 hJF
  go_enter Tryz.func54, Tryz.ntmps54
  rcases hp1 : Kj (l.drop at') with _ | ⟨n, r1⟩
  ·
   have HP : Hid (kY most pId (l.drop at') = none) := hid (by unfold kY kP; rw [hp1])
   have HP1 := hid hp1
   clear hp1
   go_wp2_with (first
     | (go_at_call 51; refine (jC g b off c l at' w HRD.out hl).mono ?_; rintro e w1 hgv
        obtain ⟨rfl, hbt⟩ := hgv.bad HP1.out))
   exact ⟨rfl, LGives.no HP.out rfl (HF.out _ hbt)⟩
  ·
   have hn63 : n < 9223372036854775808 := (JB hp1).2
   have HP1 := hid hp1
   by_cases hnm : n ≤ most
   ·
    have dn : decide ((n : Int) ≤ (most : Int)) = true := by simp; omega
    obtain ⟨k0, rfl⟩ : ∃ k0, r1 = l.drop k0 := by
      unfold Kj at hp1
      split at hp1
      · cases hp1; rw [List.drop_drop]; exact ⟨_, rfl⟩
      · cases hp1
    have HPL : Hid (kY most pId (l.drop at') = Z4 pId n (l.drop k0)) := hid (by unfold kY; rw [kF HP1.out]; unfold vJ; rw [if_pos (by simpa using hnm)])
    clear hp1
    go_wp2_with (first
      | (go_at_call 51; refine (jC g b off c l at' w HRD.out hl).mono ?_; rintro e w1 hgv
         obtain ⟨v, k1, rfl, hle, hr1, hrd1, hbt, rfl⟩ := hgv.ok HP1.out
         have HR1 := hid hr1; have HRD1 := hid hrd1; have HB1 := hid hbt; have HLE1 := hid hle
         clear hrd1 hbt hle hr1
         clear hgv)
      | (go_at_call 57; refine (K5 _).mono ?_; rintro e w2 ⟨rfl, rfl⟩))
    have HPL1 : Hid (kY most pId (l.drop at') = Z4 pId n (l.drop k1)) := hid (by rw [HPL.out, HR1.out])
    go_loopw [14] (fun t wr => ∃ i : Nat, i ≤ n ∧ t = .int .i64 (i : Int) ∧ Hid (∃ xs a, xs.length = i ∧ at' ≤ a ∧ J a xs wr ∧ LRest pId l n k1 i a xs)) (fun t _ => n - (intOf t).toNat)
    case atStart => exact ⟨0, Nat.zero_le _, rfl, hid ⟨[], k1, rfl, HLE1.out, H0.out _ _ HLE1.out HB1.out HRD1.out, LRest.start _ _ _ _⟩⟩
    case round =>
      obtain ⟨i, hi, rfl, HS⟩ := hrel
      obtain ⟨xs, a, hxl, hla, hJ, hR⟩ := HS.out
      have HXL := hid hxl; have HLA := hid hla; have HJ := hid hJ; have HR := hid hR
      clear hxl hla hJ hR
      by_cases hlt : i < n
      ·
       have i1 : (i : Int) < (n : Int) := by omega
       rcases hpx : pId (l.drop a) with _ | ⟨x, r⟩
       ·
        have HPX := hid hpx
        clear hpx
        go_wp2_with (first
          | (go_at_call 88; refine (H1.out a xs _ (by have := HXL.out; omega) HJ.out).mono ?_; rintro e w3 hgv
             obtain ⟨rfl, hF3⟩ := hgv.bad HPX.out))
        exact ⟨rfl, LGives.no (by rw [HPL1.out]; exact HR.out.fail hlt HPX.out) rfl hF3⟩
       ·
        have HPX := hid hpx
        clear hpx
        go_wp2_with (first
          | (go_at_call 88; refine (H1.out a xs _ (by have := HXL.out; omega) HJ.out).mono ?_; rintro e w3 hgv
             obtain ⟨rfl, a2, hla2, hr2, hJ2⟩ := hgv.ok HPX.out
             have HJ2 := hid hJ2; have HLA2 := hid hla2; have HR2 := hid (HR.out.next hlt (HPX.out.trans (by rw [hr2])))
             clear hgv hJ2 hla2 hr2))
        go_roundw
        case rel => exact ⟨i + 1, by omega, by go_num, hid ⟨xs ++ [x], a2, by rw [List.length_append, HXL.out]; rfl, Nat.le_trans HLA.out HLA2.out, HJ2.out, HR2.out⟩⟩
        case measure => (simp [intOf]) <;> omega
      ·
       have i1 : ¬ (i : Int) < (n : Int) := by omega
       have HE : Hid (kY most pId (l.drop at') = some (xs, l.drop a)) := hid (by rw [HPL1.out]; exact HR.out.end (by omega))
       have hxm : xs.length ≤ most := by have := HXL.out; omega
       go_wp2_with fail
       go_end0
       exact LGives.yes HE.out rfl HLA.out hxm HJ.out
   ·
    have HP : Hid (kY most pId (l.drop at') = none) := hid (by unfold kY kP; rw [hp1]; unfold vJ; simp [hnm])
    have dn : decide ((n : Int) ≤ (most : Int)) = false := by simp; omega
    clear hp1
    go_wp2_with (first
      | (go_at_call 51; refine (jC g b off c l at' w HRD.out hl).mono ?_; rintro e w1 hgv
         obtain ⟨v, k1, rfl, hle, hr1, hrd1, hbt, rfl⟩ := hgv.ok HP1.out
         have HB1 := hid hbt
         clear hrd1 hbt
         clear hgv)
      | (go_at_call 57; refine (Ks _).mono ?_; rintro e w2 ⟨rfl, rfl⟩))
    exact ⟨rfl, LGives.no HP.out rfl (HF.out _ HB1.out)⟩
theorem rlist_ops (g b off c : Nat) (l : List UInt8) (at' : Nat) (w : World) (hr : RdAt w g b off c l at') (hl : l.length ≤ 1099511627776) (most : Nat) (hmost : most ≤ 1099511627776) (deps : List (List UInt8)) (c1 c2 : Value) (J : Nat → List OpD → World → Prop) (F : World → Prop)
    (h0 : ∀ a w1, at' ≤ a → But (fun k => k = g) w w1 → RdAt w1 g b off c l a → J a [] w1) (hF : ∀ w1, But (fun k => k = g) w w1 → F w1)
    (h1 : ∀ a xs w1, xs.length < most → J a xs w1 → Calls Tryz.prog 55 #[c1, c2] w1 (UnoGives (pOp deps) l J F a xs)) (hJF : ∀ a xs w1, J a xs w1 → F w1) :
    Calls Tryz.prog 54 #[.pointer (some ⟨g, 0, none⟩), .int .i64 (most : Int), .func (.func 55) #[] #[c1, c2]] w (LGives (pOp deps) l most at' J F) := by
  have HRD := hid hr; have H0 := hid h0; have HF := hid hF; have H1 := hid h1; have HJF := hid hJF
  clear hr h0 hF h1 hJF
  go_enter Tryz.func54, Tryz.ntmps54
  rcases hp1 : Kj (l.drop at') with _ | ⟨n, r1⟩
  ·
   have HP : Hid (kY most (pOp deps) (l.drop at') = none) := hid (by unfold kY kP; rw [hp1])
   have HP1 := hid hp1
   clear hp1
   go_wp2_with (first
     | (go_at_call 51; refine (jC g b off c l at' w HRD.out hl).mono ?_; rintro e w1 hgv
        obtain ⟨rfl, hbt⟩ := hgv.bad HP1.out))
   exact ⟨rfl, LGives.no HP.out rfl (HF.out _ hbt)⟩
  ·
   have hn63 : n < 9223372036854775808 := (JB hp1).2
   have HP1 := hid hp1
   by_cases hnm : n ≤ most
   ·
    have dn : decide ((n : Int) ≤ (most : Int)) = true := by simp; omega
    obtain ⟨k0, rfl⟩ : ∃ k0, r1 = l.drop k0 := by
      unfold Kj at hp1
      split at hp1
      · cases hp1; rw [List.drop_drop]; exact ⟨_, rfl⟩
      · cases hp1
    have HPL : Hid (kY most (pOp deps) (l.drop at') = Z4 (pOp deps) n (l.drop k0)) := hid (by unfold kY; rw [kF HP1.out]; unfold vJ; rw [if_pos (by simpa using hnm)])
    clear hp1
    go_wp2_with (first
      | (go_at_call 51; refine (jC g b off c l at' w HRD.out hl).mono ?_; rintro e w1 hgv
         obtain ⟨v, k1, rfl, hle, hr1, hrd1, hbt, rfl⟩ := hgv.ok HP1.out
         have HR1 := hid hr1; have HRD1 := hid hrd1; have HB1 := hid hbt; have HLE1 := hid hle
         clear hrd1 hbt hle hr1
         clear hgv)
      | (go_at_call 57; refine (K5 _).mono ?_; rintro e w2 ⟨rfl, rfl⟩))
    have HPL1 : Hid (kY most (pOp deps) (l.drop at') = Z4 (pOp deps) n (l.drop k1)) := hid (by rw [HPL.out, HR1.out])
    go_loopw [14] (fun t wr => ∃ i : Nat, i ≤ n ∧ t = .int .i64 (i : Int) ∧ Hid (∃ xs a, xs.length = i ∧ at' ≤ a ∧ J a xs wr ∧ LRest (pOp deps) l n k1 i a xs)) (fun t _ => n - (intOf t).toNat)
    case atStart => exact ⟨0, Nat.zero_le _, rfl, hid ⟨[], k1, rfl, HLE1.out, H0.out _ _ HLE1.out HB1.out HRD1.out, LRest.start _ _ _ _⟩⟩
    case round =>
      obtain ⟨i, hi, rfl, HS⟩ := hrel
      obtain ⟨xs, a, hxl, hla, hJ, hR⟩ := HS.out
      have HXL := hid hxl; have HLA := hid hla; have HJ := hid hJ; have HR := hid hR
      clear hxl hla hJ hR
      by_cases hlt : i < n
      ·
       have i1 : (i : Int) < (n : Int) := by omega
       rcases hpx : (pOp deps) (l.drop a) with _ | ⟨x, r⟩
       ·
        have HPX := hid hpx
        clear hpx
        go_wp2_with (first
          | (go_at_call 55; refine (H1.out a xs _ (by have := HXL.out; omega) HJ.out).mono ?_; rintro e w3 hgv
             obtain ⟨rfl, hF3⟩ := hgv.bad HPX.out))
        exact ⟨rfl, LGives.no (by rw [HPL1.out]; exact HR.out.fail hlt HPX.out) rfl hF3⟩
       ·
        have HPX := hid hpx
        clear hpx
        go_wp2_with (first
          | (go_at_call 55; refine (H1.out a xs _ (by have := HXL.out; omega) HJ.out).mono ?_; rintro e w3 hgv
             obtain ⟨rfl, a2, hla2, hr2, hJ2⟩ := hgv.ok HPX.out
             have HJ2 := hid hJ2; have HLA2 := hid hla2; have HR2 := hid (HR.out.next hlt (HPX.out.trans (by rw [hr2])))
             clear hgv hJ2 hla2 hr2))
        go_roundw
        case rel => exact ⟨i + 1, by omega, by go_num, hid ⟨xs ++ [x], a2, by rw [List.length_append, HXL.out]; rfl, Nat.le_trans HLA.out HLA2.out, HJ2.out, HR2.out⟩⟩
        case measure => (simp [intOf]) <;> omega
      ·
       have i1 : ¬ (i : Int) < (n : Int) := by omega
       have HE : Hid (kY most (pOp deps) (l.drop at') = some (xs, l.drop a)) := hid (by rw [HPL1.out]; exact HR.out.end (by omega))
       have hxm : xs.length ≤ most := by have := HXL.out; omega
       go_wp2_with fail
       go_end0
       exact LGives.yes HE.out rfl HLA.out hxm HJ.out
   ·
    have HP : Hid (kY most (pOp deps) (l.drop at') = none) := hid (by unfold kY kP; rw [hp1]; unfold vJ; simp [hnm])
    have dn : decide ((n : Int) ≤ (most : Int)) = false := by simp; omega
    clear hp1
    go_wp2_with (first
      | (go_at_call 51; refine (jC g b off c l at' w HRD.out hl).mono ?_; rintro e w1 hgv
         obtain ⟨v, k1, rfl, hle, hr1, hrd1, hbt, rfl⟩ := hgv.ok HP1.out
         have HB1 := hid hbt
         clear hrd1 hbt
         clear hgv)
      | (go_at_call 57; refine (Ks _).mono ?_; rintro e w2 ⟨rfl, rfl⟩))
    exact ⟨rfl, LGives.no HP.out rfl (HF.out _ HB1.out)⟩
end Go.Proofs.YthjaepmfkgejkaaGreatDoor
namespace Go.Proofs.YthjaepmfkgejkaaGreatDoor
open Go.RowKit
def ZE (l : List UInt8) : Option (List UInt8) := if l.length < 32 then none else some (l.take 32)
def JU (l : List UInt8) (at' : Nat) (w : World) (e : Ending) (w' : World) : Prop := Below w.heap.size w w' ∧ (match ZE (l.drop at') with
  | some i => e = .returned (.tuple #[.agg (idV i).toArray, .int .i64 ((at' + 32 : Nat) : Int), .int .i64 0])
  | none => ∃ q : Int, q ≠ 0 ∧ e = .returned (.tuple #[.agg (List.replicate 32 (Value.int .u8 0)).toArray, .int .i64 0, .int .i64 q]))
theorem vz : (Tryz.prog.info? 47).map (·.size) = some 32 := by kernel_rfl
theorem size_u8 : (Tryz.prog.info? 5).map (·.size) = some 1 := by kernel_rfl
theorem Zs {P : Program} {fn : Func} {p u v : Tmp} {ty : TypeId} (h : fn.results = #[.cell p ty, .tmp u, .tmp v]) (tmps : Array Value) (w : World) {a : Addr} {r x y : Value}
    (hp : tmps.getD p undef = .pointer (some a)) (hu : tmps.getD u undef = x) (hv : tmps.getD v undef = y) (hl : (loadVar ty a).run P w = .ok r w) : (results fn tmps).run P w = .ok (.tuple #[r, x, y]) w := by
  have hp' : tmps[p]?.getD undef = .pointer (some a) := by simpa using hp
  have hu' : tmps[u]?.getD undef = x := by simpa using hu
  have hv' : tmps[v]?.getD undef = y := by simpa using hv
  simp only [results, h]
  simp [Result.andThen, hp', hu', hv', asAddr, hl]
theorem zeros32 : (List.replicate 32 (Value.int .u8 0)).toArray = #[.int .u8 0, .int .u8 0, .int .u8 0, .int .u8 0, .int .u8 0, .int .u8 0, .int .u8 0, .int .u8 0, .int .u8 0, .int .u8 0, .int .u8 0, .int .u8 0, .int .u8 0, .int .u8 0, .int .u8 0, .int .u8 0, .int .u8 0, .int .u8 0, .int .u8 0, .int .u8 0, .int .u8 0, .int .u8 0, .int .u8 0, .int .u8 0, .int .u8 0, .int .u8 0, .int .u8 0, .int .u8 0, .int .u8 0, .int .u8 0, .int .u8 0, .int .u8 0] := rfl
theorem getId_any (l : List UInt8) (b off : Nat) (c : Nat) (at' : Nat) (w : World) (hl : l.length ≤ 1099511627776) (hcap : l.length ≤ c) (hat : at' ≤ l.length) (hb : b < w.heap.size) (hc : ∀ j (h : j < l.length), w.cell? ⟨b, off + j, none⟩ = some (.int .u8 ((l[j]).toNat : Int))) :
    Calls Tryz.prog 89 #[.slice (some ⟨b, off, none⟩) l.length c, .int .i64 at'] w (JU l at' w) := by
  have HC := Lib.hid hc; clear hc
  have d1 : decide (l.length < at') = false := by simp; omega
  have d2 : decide ((at' : Int) < 0) = false := by simp
  by_cases h32 : l.length - at' < 32
  ·
   have h32' : (l.length : Int) - (at' : Int) < 32 := by omega
   go_enter Tryz.func89, Tryz.ntmps89
   go_upto_region 4 with fail
   rw [← zeros32]
   obtain ⟨W, hW⟩ : ∃ W, w.alloc (.cells (List.replicate 32 (Value.int .u8 0)).toArray 47) = W := ⟨_, rfl⟩
   have hbW : Below w.heap.size w W := by rw [← hW]; exact (qB _ _).alloc (qR _) _
   have hgW : W.heap[w.heap.size]? = some (.cells (List.replicate 32 (Value.int .u8 0)).toArray 47 (0, 0)) := by rw [← hW]; exact heap_alloc_new _ _
   rw [hW]
   have HG := Lib.hid hgW; clear hgW hW
   go_step
   refine wpList_load_row rfl 47 _ rfl w.heap.size rfl 47 _ (0, 0) _ HG.out Tryz.underlying47 rfl vz ?_
   refine uN (B := w.heap.size) (w0 := w) rfl 47 _ _ rfl w.heap.size _ rfl rfl 47 _ HG.out vz rfl (by kernel_rfl) hbW (qR _) ?_
   intro W2 hbW2 hW2 _
   have HW2 := Lib.hid hW2; clear hW2
   go_wp2_with fail
   refine bodyPost_ret (Zs Tryz.results89 _ _ rfl rfl rfl (run_loadVar_row (P := Tryz.prog) _ w.heap.size 47 47 _ (0, 0) _ HW2.out Tryz.underlying47 rfl vz)) rfl ⟨hbW2, ?_⟩
   have : ZE (l.drop at') = none := by unfold ZE; rw [List.length_drop, if_pos h32]
   rw [this]
   exact ⟨6, by omega, rfl⟩
  ·
   have h32' : ¬ (l.length : Int) - (at' : Int) < 32 := by omega
   have hac : at' < c := by omega
   have hca : ¬ c = at' := by omega
   go_enter Tryz.func89, Tryz.ntmps89
   go_upto_region 5 with fail
   rw [← zeros32]
   obtain ⟨W, hW⟩ : ∃ W, w.alloc (.cells (List.replicate 32 (Value.int .u8 0)).toArray 47) = W := ⟨_, rfl⟩
   have hbW : Below w.heap.size w W := by rw [← hW]; exact (qB _ _).alloc (qR _) _
   have hgW : W.heap[w.heap.size]? = some (.cells (List.replicate 32 (Value.int .u8 0)).toArray 47 (0, 0)) := by rw [← hW]; exact heap_alloc_new _ _
   rw [hW]
   have HG := Lib.hid hgW; clear hgW hW
   have hcs : (idV ((l.drop at').take 32)).length = 32 := by rw [k8, List.length_take, List.length_drop]; omega
   have hsrc : ∀ j v, (idV ((l.drop at').take 32))[j]? = some v → W.cell? ((⟨b, off + at', none⟩ : Addr).add j) = some v := by
     intro j v hj
     have hj2 : j < 32 := by have := (List.getElem?_eq_some_iff.1 hj).1; omega
     have e1 : (⟨b, off + at', none⟩ : Addr).add j = ⟨b, off + (at' + j), none⟩ := by unfold Addr.add; split <;> simp_all [Nat.add_assoc]
     rw [e1, hbW.cell (p := ⟨b, off + (at' + j), none⟩) hb, HC.out (at' + j) (by omega), ← hj]
     simp [idV, hj2, List.getElem?_drop, show at' + j < l.length by omega]
   go_region_law (refine step_copy_splice rfl (.tmp 22) (.tmp 25) 22 22 rfl 5 Tryz.underlying22 size_u8 _ _ _ _ _ _ rfl rfl w.heap.size 0 (List.replicate 32 (Value.int .u8 0)) 47 HG.out (idV ((l.drop at').take 32)) (by rw [hcs]; exact (Nat.min_eq_right (by omega)).symm) (fun _ => ⟨rfl, _, rfl, hsrc⟩) (by rw [hcs]; simp) (ky _) w.heap.size w hbW.drew (qR _) ?_; intro w4 hg4 hb4)
   have hsp : (splice (List.replicate 32 (Value.int .u8 0)) 0 (idV ((l.drop at').take 32))) = idV ((l.drop at').take 32) := by
     unfold splice
     rw [hcs]
     simp
   rw [hsp] at hg4
   have HG4 : Hid (w4.heap[w.heap.size]? = some (.cells (idV ((l.drop at').take 32)).toArray 47 (0, 0))) := hg4
   clear hg4 hsrc
   have hsz4 : (idV ((l.drop at').take 32)).toArray.size = 32 := by simpa using hcs
   go_upto_region 6 with fail
   go_wp2_with (first | (refine wpList_load_row rfl 47 _ rfl w.heap.size rfl 47 _ (0, 0) _ HG4.out Tryz.underlying47 rfl (by rw [hsz4]; exact vz) ?_) | (refine uN (B := w.heap.size) (w0 := w) rfl 47 _ _ rfl w.heap.size _ rfl rfl 47 _ HG4.out (by rw [hsz4]; exact vz) rfl (by simpa using ky _) hb4 (qR _) ?_; intro W2 hbW2 hW2 _; have HW2 := Lib.hid hW2; clear hW2))
   refine bodyPost_ret (Zs Tryz.results89 _ _ rfl rfl rfl (run_loadVar_row (P := Tryz.prog) _ w.heap.size 47 47 _ (0, 0) _ HW2.out Tryz.underlying47 rfl (by rw [hsz4]; exact vz))) rfl ⟨hbW2, ?_⟩
   have : ZE (l.drop at') = some ((l.drop at').take 32) := by unfold ZE; rw [List.length_drop, if_neg h32]
   rw [this]
   show Ending.returned _ = _
   rw [show ((at' + 32 : Nat) : Int) = (at' : Int) + 32 by omega]
   rfl
end Go.Proofs.YthjaepmfkgejkaaGreatDoor
