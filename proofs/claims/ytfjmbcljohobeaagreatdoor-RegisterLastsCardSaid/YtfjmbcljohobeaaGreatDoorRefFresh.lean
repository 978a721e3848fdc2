/-
  What the reference's Clash, clashes, Digits and Fresh give. Conditions: texts of at most 2^47 bytes; at most 97 taken paths; numbers below 100.
-/
import Derived.Test.YtfjmbcljohobeaaGreatDoorFreshWalks
namespace Go.Proofs.YtfjmbcljohobeaaGreatDoor
open Go.RowKit
set_option linter.unusedVariables false

set_option maxRecDepth 100000 in
theorem begins_any (s t : ByteArray) (w : World) (hs : s.size ≤ 281474976710656) (ht : t.size ≤ 281474976710656) : Calls Tryz.prog 73 #[.string s, .string t] w fun e w' => w = w' ∧ e = .returned (.bool ((L t).isPrefixOf (L s))) := by
  by_cases h : t.size ≤ s.size
  · have hq := str_beq (s.extract 0 t.size) t
    have hp : (L t).isPrefixOf (L s) = decide (L (s.extract 0 t.size) = L t) := by
      rw [Bool.eq_iff_iff, decide_eq_true_eq, List.isPrefixOf_iff_prefix]
      rw [show L (s.extract 0 t.size) = (L s).take t.size from Lib.extract_from_zero s t.size, ← L_length t]
      exact ⟨fun h => (List.prefix_iff_eq_take.1 h).symm, fun h => List.prefix_iff_eq_take.2 h.symm⟩
    rw [hp, ← hq]
    clear hp hq
    have h0 : (0 : Int) ≤ (t.size : Int) := by omega
    have h1 : (t.size : Int) ≤ (s.size : Int) := by omega
    go_enter Tryz.func73, Tryz.ntmps73
    go_wp2_with fail
    go_ret
    exact ⟨rfl, rfl⟩
  · have hp : (L t).isPrefixOf (L s) = false := by
      rw [Bool.eq_false_iff, ne_eq, List.isPrefixOf_iff_prefix]
      intro hh
      have := hh.length_le
      rw [L_length, L_length] at this
      omega
    rw [hp]
    clear hp
    go_enter Tryz.func73, Tryz.ntmps73
    go_wp2_with fail
    go_ret
    exact ⟨rfl, rfl⟩

set_option maxHeartbeats 2000000 in
set_option maxRecDepth 100000 in
theorem refClash_any (a b : ByteArray) (w : World) (ha : a.size ≤ 140737488355328) (hb : b.size ≤ 140737488355328) : Calls Tryz.prog 54 #[.string a, .string b] w fun e w' => w = w' ∧ e = .returned (.bool (clashB (L a) (L b))) := by
  have he := str_beq a b
  by_cases h1 : L a = L b
  · rw [decide_eq_true h1] at he
    rw [show clashB (L a) (L b) = true by simp [clashB, h1]]
    clear h1
    go_enter Tryz.func54, Tryz.ntmps54
    go_wp2_with fail
    go_ret
    exact ⟨rfl, rfl⟩
  · rw [decide_eq_false h1] at he
    have h1' : clashB (L a) (L b) = ((L (b ++ ⟨#[47]⟩)).isPrefixOf (L a) || (L (a ++ ⟨#[47]⟩)).isPrefixOf (L b)) := by
      rw [L_app, L_app]
      simp only [clashB, h1, decide_false, Bool.false_or]
      rw [Bool.or_comm]
      rfl
    have hza : (a ++ ⟨#[47]⟩ : ByteArray).size ≤ 281474976710656 := by rw [size_app]; show a.size + 1 ≤ _; omega
    have hzb : (b ++ ⟨#[47]⟩ : ByteArray).size ≤ 281474976710656 := by rw [size_app]; show b.size + 1 ≤ _; omega
    rw [h1']
    clear h1 h1'
    cases hu : (L (b ++ ⟨#[47]⟩)).isPrefixOf (L a)
    · have HU := Lib.hid hu; clear hu
      go_enter Tryz.func54, Tryz.ntmps54
      go_wp2_with fail
      refine (begins_any a _ _ (Nat.le_trans ha (by decide)) hzb).mono ?_
      rw [HU.out]
      rintro e w1 ⟨rfl, rfl⟩
      go_wp2_with fail
      refine (begins_any b _ _ (Nat.le_trans hb (by decide)) hza).mono ?_
      rintro e w1 ⟨rfl, rfl⟩
      go_wp2_with fail
      go_ret
      exact ⟨rfl, ret_bool (by simp)⟩
    · have HU := Lib.hid hu; clear hu
      go_enter Tryz.func54, Tryz.ntmps54
      go_wp2_with fail
      refine (begins_any a _ _ (Nat.le_trans ha (by decide)) hzb).mono ?_
      rw [HU.out]
      rintro e w1 ⟨rfl, rfl⟩
      go_wp2_with fail
      go_ret
      exact ⟨rfl, ret_bool (by simp)⟩

set_option maxRecDepth 100000 in
theorem refClashes_any (s : ByteArray) (taken : List ByteArray) (A : Option Addr) (c : Nat) (w0 w : World) (hs : s.size ≤ 140737488355328) (hn : taken.length ≤ 1099511627776) (hsm : smallL taken)
    (hsl : Sl w w0.heap.size A taken.length 1 (strs taken)) :
    Calls Tryz.prog 40 #[.string s, .slice A taken.length c] w fun e w' => w = w' ∧ e = .returned (.bool (clashesB (L s) (Ls taken))) := by
  have HSL := Lib.hid hsl; clear hsl
  have HSM := Lib.hid hsm; clear hsm
  go_enter Tryz.func40, Tryz.ntmps40
  go_wp2_with fail
  go_loop [5] (fun t => ∃ i : Nat, i ≤ taken.length ∧ t = .int .i64 i ∧ Hid (∀ j (hj : j < (Ls taken).length), j < i → clashB (L s) (Ls taken)[j] = false)) (fun t => taken.length - (intOf t).toNat)
  case atStart => exact ⟨0, by omega, rfl, Lib.hid fun j _ hj => absurd hj (by omega)⟩
  case round =>
    obtain ⟨i, hi, rfl, hI⟩ := hrel
    by_cases hlt : i < taken.length
    · obtain ⟨g, off, rfl, hbl, hcl⟩ := HSL.out.2 (by omega)
      have hc := hcl i (.string taken[i]) (by simp [strs, hlt])
      have hot : taken[i].size ≤ 140737488355328 := HSM.out _ (List.getElem_mem hlt)
      have hLi : (Ls taken)[i]'(by simp [Ls]; exact hlt) = L taken[i] := by simp [Ls]
      have HLI := Lib.hid hLi; clear hLi hcl
      have i0 : (0 : Int) ≤ (i : Int) := by omega
      have i1 : (i : Int) < (taken.length : Int) := by omega
      generalize hoi : taken[i] = o at *
      clear hoi
      cases hcl : clashB (L s) (L o)
      · have HC := Lib.hid hcl; clear hcl
        go_wp2_with (go_at_call 54; refine (refClash_any s o _ hs hot).mono ?_; rw [HC.out]; rintro e w2 ⟨rfl, rfl⟩)
        go_round
        case rel =>
          refine ⟨i + 1, by omega, by go_num, Lib.hid fun j hj hji => ?_⟩
          rcases (by omega : j < i ∨ j = i) with h | h
          · exact hI.out j hj h
          · subst h; rw [HLI.out]; exact HC.out
        case measure => simp [intOf]; omega
      · have HC := Lib.hid hcl; clear hcl
        go_wp2_with (go_at_call 54; refine (refClash_any s o _ hs hot).mono ?_; rw [HC.out]; rintro e w2 ⟨rfl, rfl⟩)
        go_ret
        exact ⟨rfl, ret_bool (clashes_yes (j := i) (by simp [Ls]; exact hlt) (by rw [HLI.out]; exact HC.out)).symm⟩
    · go_wp2_with fail
      go_ret
      exact ⟨rfl, ret_bool (clashes_no fun j hj => hI.out j hj (by have : (Ls taken).length = taken.length := by simp [Ls]
                                                                   omega)).symm⟩

def DIG : ByteArray := ⟨#[48, 49, 50, 51, 52, 53, 54, 55, 56, 57]⟩
theorem dig_at (i : Nat) (h : i < 10) : L (DIG.extract i (i + 1)) = [UInt8.ofNat (48 + i)] := by
  rw [show L (DIG.extract i (i + 1)) = _ from Lib.extract_data DIG i (i + 1)]
  have : ∀ i : Fin 10, (DIG.data.toList.drop i.val).take (i.val + 1 - i.val) = [UInt8.ofNat (48 + i.val)] := by decide
  exact this ⟨i, h⟩

set_option maxRecDepth 100000 in
theorem digits_any (n : Nat) (w : World) (h : n < 100) : Calls Tryz.prog 41 #[.int .i64 n] w fun e w' => w = w' ∧ ∃ t : ByteArray, e = .returned (.string t) ∧ t.size ≤ 2 ∧ L t = Lib.decDigits n := by
  by_cases h10 : n < 10
  · have hdig := dig_at n h10
    have HD := Lib.hid hdig; clear hdig
    have hi0 : (0 : Int) ≤ (n : Int) := by omega
    have hi1 : (n : Int) ≤ (n : Int) + 1 := by omega
    have hi2 : (n : Int) + 1 ≤ 10 := by omega
    go_enter Tryz.func41, Tryz.ntmps41
    go_wp2_with fail
    go_loop [0, 3] (fun t u => t = .int .i64 n ∧ u = .string ⟨#[]⟩) (fun t _ => (intOf t).toNat)
    case atStart => exact ⟨rfl, rfl⟩
    case round =>
      obtain ⟨rfl, rfl⟩ := hrel
      go_wp2_with fail
      go_ret
      refine ⟨rfl, _, rfl, ?_, ?_⟩
      · rw [size_app, ← L_length (ByteArray.extract _ _ _), show L (ByteArray.extract ⟨#[48, 49, 50, 51, 52, 53, 54, 55, 56, 57]⟩ n (n + 1)) = _ from HD.out]
        show 1 + 0 ≤ 2
        omega
      · rw [L_app, show L (ByteArray.extract ⟨#[48, 49, 50, 51, 52, 53, 54, 55, 56, 57]⟩ n (n + 1)) = _ from HD.out, Lib.decDigits_one h10]
        rfl
  · obtain ⟨d, hd⟩ : ∃ d, d = n / 10 := ⟨_, rfl⟩
    obtain ⟨r, hr⟩ : ∃ r, r = n % 10 := ⟨_, rfl⟩
    have hd1 : 1 ≤ d := by omega
    have hd9 : d < 10 := by omega
    have hr9 : r < 10 := by omega
    have hn : n = 10 * d + r := by omega
    have hdigd := dig_at d hd9
    have hdigr := dig_at r hr9
    have hq : (n : Int).tdiv 10 = (d : Int) := by rw [Int.tdiv_eq_ediv_of_nonneg (by omega)]; omega
    have hm : (n : Int).tmod 10 = (r : Int) := by rw [Int.tmod_eq_emod_of_nonneg (by omega)]; omega
    have hdec : Lib.decDigits n = [UInt8.ofNat (48 + d), UInt8.ofNat (48 + r)] := by rw [decDigits_step h10, ← hd, ← hr, Lib.decDigits_one hd9]; rfl
    have HDD := Lib.hid hdigd; clear hdigd
    have HDR := Lib.hid hdigr; clear hdigr
    have HDEC := Lib.hid hdec; clear hdec
    have hdn : d < n := by omega
    clear hd hr hn
    have hi0 : (0 : Int) ≤ (d : Int) := by omega
    have hi1 : (d : Int) ≤ (d : Int) + 1 := by omega
    have hi2 : (d : Int) + 1 ≤ 10 := by omega
    have hj0 : (0 : Int) ≤ (r : Int) := by omega
    have hj1 : (r : Int) ≤ (r : Int) + 1 := by omega
    have hj2 : (r : Int) + 1 ≤ 10 := by omega
    go_enter Tryz.func41, Tryz.ntmps41
    go_wp2_with fail
    go_loop [0, 3] (fun t u => (t = .int .i64 n ∧ u = .string ⟨#[]⟩) ∨ (t = .int .i64 d ∧ ∃ x : ByteArray, u = .string x ∧ x.size = 1 ∧ Hid (L x = [UInt8.ofNat (48 + r)]))) (fun t _ => (intOf t).toNat)
    case atStart => exact .inl ⟨rfl, rfl⟩
    case round =>
      rcases hrel with ⟨rfl, rfl⟩ | ⟨rfl, x, rfl, hx1, HX⟩
      · have hge : (10 : Int) ≤ (n : Int) := by omega
        go_wp2_with fail
        go_round
        case rel =>
          refine .inr ⟨by go_num, _, rfl, ?_, Lib.hid ?_⟩
          · rw [size_app, ← L_length (ByteArray.extract _ _ _), show L (ByteArray.extract ⟨#[48, 49, 50, 51, 52, 53, 54, 55, 56, 57]⟩ r (r + 1)) = _ from HDR.out]
            rfl
          · rw [L_app, show L (ByteArray.extract ⟨#[48, 49, 50, 51, 52, 53, 54, 55, 56, 57]⟩ r (r + 1)) = _ from HDR.out]
            rfl
        case measure => simp [intOf]; omega
      · go_wp2_with fail
        go_ret
        refine ⟨rfl, _, rfl, ?_, ?_⟩
        · rw [size_app, ← L_length (ByteArray.extract _ _ _), show L (ByteArray.extract ⟨#[48, 49, 50, 51, 52, 53, 54, 55, 56, 57]⟩ d (d + 1)) = _ from HDD.out, hx1]
          show 1 + 1 ≤ 2
          omega
        · rw [L_app, show L (ByteArray.extract ⟨#[48, 49, 50, 51, 52, 53, 54, 55, 56, 57]⟩ d (d + 1)) = _ from HDD.out, HX.out, HDEC.out]
          rfl

theorem digits_val (n : Nat) (w : World) (h : n < 100) : Calls Tryz.prog 41 #[.int .i64 n] w fun e w' => w = w' ∧ e = .returned (.string ⟨(Lib.decDigits n).toArray⟩) := by
  refine (digits_any n w h).mono ?_
  rintro e w' ⟨hw, t, rfl, _, ht⟩
  refine ⟨hw, ?_⟩
  rw [← ht]

def candT (s : ByteArray) (n : Nat) : ByteArray := ⟨(candS (L s) n).toArray⟩
theorem L_candT (s : ByteArray) (n : Nat) : L (candT s n) = candS (L s) n := by simp [candT, L]
theorem candT_size (s : ByteArray) (n : Nat) (h : n < 100) : (candT s n).size ≤ s.size + 4 := by
  have h1 := decDigits_len h
  have h2 := congrArg List.length (first_rest (L s))
  rw [List.length_append, L_length] at h2
  rw [← L_length, L_candT]
  simp only [candS, List.length_append, List.length_cons, List.length_nil]
  omega
/-- The candidate as the reference puts it together. -/
theorem cand_text (s d : ByteArray) (n m : Nat) (hm : (firstc (L s)).length = m) (hd : L d = Lib.decDigits n) : L (s.extract 0 m ++ ⟨#[126]⟩ ++ d ++ s.extract m s.size) = candS (L s) n := by
  subst hm
  rw [L_app, L_app, L_app, hd, show L (s.extract 0 _) = _ from Lib.extract_from_zero s _, show L (s.extract _ s.size) = _ from Lib.extract_to_end s _, firstc_take, firstc_drop]
  rfl
theorem firstc_at (s : ByteArray) (k : Nat) (h : k < s.size) : (k < (firstc (L s)).length → B s k ≠ 47) ∧ (k = (firstc (L s)).length → B s k = 47) := by
  have hk := B_L s k h
  have hb := B_of s k h
  constructor
  · intro hl e
    have h1 : (L s)[k]? = (firstc (L s))[k]? := by
      conv => lhs; rw [← first_rest (L s)]
      rw [List.getElem?_append_left hl]
    rw [hk] at h1
    have h2 := List.mem_of_getElem? h1.symm
    refine firstc_no (L s) ?_
    have : s[k] = 47 := UInt8.toNat_inj.1 (by rw [← hb, e]; rfl)
    rwa [this] at h2
  · intro hl
    have h1 : (L s)[k]? = (restc (L s))[0]? := by
      conv => lhs; rw [← first_rest (L s)]
      rw [List.getElem?_append_right (by omega), hl, Nat.sub_self]
    rcases restc_form (L s) with hr | ⟨b, hr⟩
    · rw [hr, hk] at h1; simp at h1
    · rw [hr, hk] at h1
      simp at h1
      rw [hb, h1]; rfl

set_option maxHeartbeats 2000000 in
set_option maxRecDepth 100000 in
theorem refFresh_any (s : ByteArray) (taken : List ByteArray) (A : Option Addr) (c : Nat) (w : World) (hs : s.size ≤ 1099511627776) (hn : taken.length ≤ 97) (hsm : smallL taken)
    (hsl : Sl w w.heap.size A taken.length 1 (strs taken)) :
    Calls Tryz.prog 28 #[.string s, .slice A taken.length c] w fun e w' => Below w.heap.size w w' ∧ ∃ t : ByteArray, e = .returned (.string t) ∧ L t = freshS (L s) (Ls taken) := by
  have hTl : (Ls taken).length = taken.length := by simp [Ls]
  have HSL := Lib.hid hsl; clear hsl
  have HSM := Lib.hid hsm; clear hsm
  cases hcs : clashesB (L s) (Ls taken)
  · have hfs : L s = freshS (L s) (Ls taken) := (Trying.start s (Ls taken)).done hcs
    have HF := Lib.hid hfs; clear hfs
    have HC := Lib.hid hcs; clear hcs
    go_enter Tryz.func28, Tryz.ntmps28
    go_wp2_with (go_at_call 40; refine (refClashes_any s taken A c w _ (by omega) (by omega) HSM.out HSL.out).mono ?_; rw [HC.out]; rintro e w2 ⟨rfl, rfl⟩)
    go_ret
    exact ⟨Below.refl _ _, s, rfl, HF.out⟩
  · have h100 : (1 : Nat) < 100 := by omega
    have hT2 := (Trying.start s (Ls taken)).next hcs (L_candT s 1) (candT_size s 1 h100)
    have HT2 := Lib.hid hT2; clear hT2
    have HC := Lib.hid hcs; clear hcs
    have hfa := firstc_at s
    have hfl := firstc_le (L s)
    rw [L_length] at hfl
    have hctx := fun (d : ByteArray) (n : Nat) (hd : L d = Lib.decDigits n) => cand_text s d n _ rfl hd
    generalize hm : (firstc (L s)).length = m at *
    clear hm
    have HFA := Lib.hid hfa; clear hfa
    have HX := Lib.hid hctx; clear hctx
    have hb := getB s
    go_enter Tryz.func28, Tryz.ntmps28
    go_upto_region 3 with (go_at_call 40; refine (refClashes_any s taken A c w _ (by omega) (by omega) HSM.out HSL.out).mono ?_; rw [HC.out]; rintro e w2 ⟨rfl, rfl⟩)
    iterate 8 go_step
    go_cut [5] (fun s5 wx => s5 = .int .i64 m ∧ wx = w)
    case first =>
      go_wp2_with fail
      go_loop [5] (fun t => ∃ k : Nat, k ≤ m ∧ t = .int .i64 k) (fun t => m - (intOf t).toNat)
      case atStart => exact ⟨0, by omega, rfl⟩
      case round =>
        obtain ⟨k, hk, rfl⟩ := hrel
        by_cases hlt : k < m
        · have hne := (HFA.out k (by omega)).1 hlt
          have hne' : (((B s k : Nat) : Int) != 47) = true := by simp; omega
          go_wp2_with fail
          go_round
          case rel => exact ⟨k + 1, by omega, by go_num⟩
          case measure => simp [intOf]; omega
        · obtain rfl : k = m := by omega
          by_cases hz : k < s.size
          · have he := (HFA.out k hz).2 rfl
            have he' : (((B s k : Nat) : Int) != 47) = false := by rw [he]; rfl
            clear he
            go_wp2_with fail
            go_meet
            exact ⟨rfl, rfl⟩
          · go_wp2_with fail
            go_meet
            exact ⟨rfl, rfl⟩
    case rest =>
      obtain ⟨rfl, hwc⟩ := hcut
      have hwc' : w = wc := hwc.symm
      clear hwc
      subst hwc'
      clear hb
      have m0 : (0 : Int) ≤ (m : Int) := by omega
      have m1 : (m : Int) ≤ (s.size : Int) := by omega
      have z1 : (s.extract 0 m).size = m := by rw [ByteArray.size_extract]; omega
      have z2 : (s.extract m s.size).size = s.size - m := by rw [ByteArray.size_extract]; omega
      go_wp2_with fail
      go_loopg [6] (taken.length + 1) (fun g s6 wr => ∃ n : Nat, s6 = .int .i64 n ∧ 1 ≤ n ∧ n ≤ 99 ∧ Below w.heap.size w wr ∧ Hid (Trying s (Ls taken) (n + 1) g (candT s n)))
      case atStart => exact ⟨1, rfl, by omega, by omega, Below.refl _ _, Lib.hid (by have := HT2.out; rwa [hTl] at this)⟩
      case round =>
        obtain ⟨n, rfl, hn1, hn99, hbr, hT⟩ := hrel
        obtain ⟨g, rfl, hkn⟩ := hT.out.left
        rw [hTl] at hkn
        have hslr := HSL.out.keep hbr.drew
        have HSLR := Lib.hid hslr; clear hslr
        have hdl := decDigits_len (k := n) (by omega)
        have hdz : (⟨(Lib.decDigits n).toArray⟩ : ByteArray).size = (Lib.decDigits n).length := by rw [← L_length]
        have hL := HX.out ⟨(Lib.decDigits n).toArray⟩ n (by simp [L])
        have HL := Lib.hid hL; clear hL
        generalize hgd : (⟨(Lib.decDigits n).toArray⟩ : ByteArray) = dd at *
        have hdg := digits_val n
        rw [hgd] at hdg
        have HDG := Lib.hid hdg; clear hdg hgd
        have hz4 : (s.extract 0 m ++ ⟨#[126]⟩ ++ dd ++ s.extract m s.size).size ≤ 140737488355328 := by simp only [size_app, z1, z2]; show m + 1 + dd.size + (s.size - m) ≤ _; omega
        have q1 : ¬ 9223372036854775807 < m + 1 := by omega
        have q2 : ¬ 9223372036854775807 < m + 1 + (Lib.decDigits n).length := by omega
        have q3 : ¬ 9223372036854775807 < m + 1 + (Lib.decDigits n).length + (s.size - m) := by omega
        cases hcc : clashesB (candS (L s) n) (Ls taken)
        · have HCC := Lib.hid hcc; clear hcc
          go_wp2_with fail
          go_region_with (first | (go_at_call 41; refine (HDG.out _ (by omega)).mono ?_; rintro e w2 ⟨rfl, rfl⟩) | (go_at_call 40; refine (refClashes_any _ taken A c w _ hz4 (by omega) HSM.out HSLR.out).mono ?_; rw [HL.out, HCC.out]; rintro e w3 ⟨rfl, rfl⟩))
          go_wp2_with fail
          go_region_with (first | (go_at_call 41; refine (HDG.out _ (by omega)).mono ?_; rintro e w2 ⟨rfl, rfl⟩))
          go_wp2_with fail
          go_ret
          refine ⟨hbr.drew.drew, _, rfl, ?_⟩
          rw [HL.out, ← L_candT]
          exact hT.out.done (by rw [L_candT]; exact HCC.out)
        · have HCC := Lib.hid hcc; clear hcc
          go_wp2_with fail
          go_region_with (first | (go_at_call 41; refine (HDG.out _ (by omega)).mono ?_; rintro e w2 ⟨rfl, rfl⟩) | (go_at_call 40; refine (refClashes_any _ taken A c w _ hz4 (by omega) HSM.out HSLR.out).mono ?_; rw [HL.out, HCC.out]; rintro e w3 ⟨rfl, rfl⟩))
          go_wp2_with fail
          go_roundg g
          case measure => omega
          case rel => exact ⟨n + 1, by go_num, by omega, by omega, hbr.drew, Lib.hid (hT.out.next (by rw [L_candT]; exact HCC.out) (L_candT s (n + 1)) (candT_size s (n + 1) (by omega)))⟩
end Go.Proofs.YtfjmbcljohobeaaGreatDoor
