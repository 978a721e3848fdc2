/-
  What Clash and Fresh give. Conditions: texts of at most 2^47 bytes; at most 97 taken paths (Fresh).
-/
import Derived.Test.YtdgbjhfkmembdaaGreatDoorPathNames
import Derived.Test.YtdgbjhfkmembdaaGreatDoorFreshSpec
namespace Go.Proofs.YtdgbjhfkmembdaaGreatDoor
open Go.RowKit
set_option linter.unusedVariables false

theorem L_app (a b : ByteArray) : L (a ++ b) = L a ++ L b := Go.Joins.data_append a b

set_option maxRecDepth 100000 in
theorem under_any (a b : ByteArray) (w : World) (ha : a.size ≤ 140737488355328) : Calls Tryz.prog 44 #[.string a, .string b] w fun e w' => w = w' ∧ e = .returned (.bool (underB (L a) (L b))) := by
  go_enter Tryz.func44, Tryz.ntmps44
  go_wp2_with fail
  refine (Tryz.strings_HasPrefix b _ _).mono ?_
  rintro e w1 ⟨rfl, hw⟩
  obtain rfl : w1 = w := hw
  go_wp2_with fail
  go_ret
  exact ⟨rfl, ret_bool rfl⟩

set_option maxRecDepth 100000 in
theorem clash_any (a b : ByteArray) (w : World) (ha : a.size ≤ 140737488355328) (hb : b.size ≤ 140737488355328) : Calls Tryz.prog 14 #[.string a, .string b] w fun e w' => w = w' ∧ e = .returned (.bool (clashB (L a) (L b))) := by
  have he := str_beq a b
  by_cases h1 : L a = L b
  · rw [decide_eq_true h1] at he
    rw [show clashB (L a) (L b) = true by simp [clashB, h1]]
    clear h1
    go_enter Tryz.func14, Tryz.ntmps14
    go_wp2_with fail
    go_ret
    exact ⟨rfl, rfl⟩
  · rw [decide_eq_false h1] at he
    have h1' : clashB (L a) (L b) = (underB (L a) (L b) || underB (L b) (L a)) := by simp [clashB, h1]
    rw [h1']
    clear h1 h1'
    cases hu : underB (L a) (L b)
    · have HU := Lib.hid hu; clear hu
      go_enter Tryz.func14, Tryz.ntmps14
      go_wp2_with fail
      refine (under_any a b _ ha).mono ?_
      rw [HU.out]
      rintro e w1 ⟨rfl, rfl⟩
      go_wp2_with fail
      refine (under_any b a _ hb).mono ?_
      rintro e w1 ⟨rfl, rfl⟩
      go_wp2_with fail
      go_ret
      exact ⟨rfl, ret_bool (by simp)⟩
    · have HU := Lib.hid hu; clear hu
      go_enter Tryz.func14, Tryz.ntmps14
      go_wp2_with fail
      refine (under_any a b _ ha).mono ?_
      rw [HU.out]
      rintro e w1 ⟨rfl, rfl⟩
      go_wp2_with fail
      go_ret
      exact ⟨rfl, ret_bool (by simp)⟩

/-- A list of texts, as a slice's cells. -/
def strs (l : List ByteArray) : List Value := l.map Value.string
def Ls (l : List ByteArray) : List (List UInt8) := l.map L
def smallL (l : List ByteArray) : Prop := ∀ t ∈ l, t.size ≤ 140737488355328

theorem indexByte_first (l : List UInt8) : Lib.indexByte l 47 = if (47 : UInt8) ∈ l then ((firstc l).length : Int) else -1 := by
  induction l with
  | nil => rfl
  | cons c l ih =>
    unfold Lib.indexByte
    by_cases hc : c = 47
    · subst hc; simp [firstc]
    · have h1 : ¬ (c == 47) = true := by simpa using hc
      have h2 : (c != 47) = true := by simp [hc]
      rw [if_neg h1, ih]
      by_cases hm : (47 : UInt8) ∈ l
      · have hm' : (47 : UInt8) ∈ c :: l := List.mem_cons_of_mem _ hm
        have h3 : ¬ (((firstc l).length : Int) == -1) = true := by simp
        rw [if_pos hm, if_pos hm', if_neg h3]
        unfold firstc
        rw [List.takeWhile_cons, if_pos h2]
        simp
      · have hm' : (47 : UInt8) ∉ c :: l := by
          intro h
          rcases List.mem_cons.1 h with e | e
          · exact hc e.symm
          · exact hm e
        rw [if_neg hm, if_neg hm']
        rfl

theorem firstc_take (l : List UInt8) : l.take (firstc l).length = firstc l := by
  conv => lhs; arg 2; rw [← first_rest l]
  exact List.take_left
theorem firstc_drop (l : List UInt8) : l.drop (firstc l).length = restc l := by
  conv => lhs; arg 2; rw [← first_rest l]
  exact List.drop_left
theorem firstc_le (l : List UInt8) : (firstc l).length ≤ l.length := by
  have := congrArg List.length (first_rest l)
  simp at this; omega
theorem restc_none {l : List UInt8} (h : (47 : UInt8) ∉ l) : restc l = [] := by
  have := first_rest l
  rw [firstc_lone h] at this
  have := congrArg List.length this
  simp at this
  exact this

theorem clashes_no {t : List UInt8} {taken : List (List UInt8)} (h : ∀ j (hj : j < taken.length), clashB t taken[j] = false) : clashesB t taken = false := by
  unfold clashesB
  rw [List.any_eq_false]
  intro x hx
  obtain ⟨j, hj, rfl⟩ := List.getElem_of_mem hx
  simp [h j hj]
theorem clashes_yes {t : List UInt8} {taken : List (List UInt8)} {j : Nat} (hj : j < taken.length) (h : clashB t taken[j] = true) : clashesB t taken = true := by
  unfold clashesB
  rw [List.any_eq_true]
  exact ⟨_, List.getElem_mem hj, h⟩

theorem decDigits_len {k : Nat} (h : k < 100) : (Lib.decDigits k).length ≤ 2 := by
  by_cases h1 : k < 10
  · rw [Lib.decDigits_one h1]; simp
  · rw [Lib.decDigits_two h1 h]; simp

/-- The loop's state: at number k, with f steps left, the text t is tried. -/
structure Trying (s : ByteArray) (taken : List (List UInt8)) (k f : Nat) (t : ByteArray) : Prop where
  one : 1 ≤ k
  sum : k + f = taken.length + 3
  size : t.size ≤ s.size + 4
  is : freshS (L s) taken = freshGo (L s) taken f k (L t)
  cand : 2 ≤ k → L t = candS (L s) (k - 1)
  behind : ∀ j, 1 ≤ j → j + 1 < k → clashesB (candS (L s) j) taken = true

theorem Trying.start (s : ByteArray) (taken : List (List UInt8)) : Trying s taken 1 (taken.length + 2) s :=
  ⟨by omega, by omega, by omega, rfl, fun h => absurd h (by omega), fun j h1 h2 => absurd h2 (by omega)⟩
theorem Trying.left {s t : ByteArray} {taken : List (List UInt8)} {k f : Nat} (h : Trying s taken k f t) : ∃ g, f = g + 1 ∧ k ≤ taken.length + 2 := by
  have := cand_few (l := L s) (taken := taken) (m := k - 2) (fun j h1 h2 => h.behind j h1 (by omega))
  have := h.sum
  exact ⟨f - 1, by omega, by omega⟩
theorem Trying.next {s t t' : ByteArray} {taken : List (List UInt8)} {k f : Nat} (h : Trying s taken k (f + 1) t) (hc : clashesB (L t) taken = true) (ht : L t' = candS (L s) k) (hz : t'.size ≤ s.size + 4) : Trying s taken (k + 1) f t' := by
  have h1 := h.one
  refine ⟨by omega, by have := h.sum; omega, hz, ?_, fun _ => by rw [Nat.add_sub_cancel]; exact ht, fun j hj hk => ?_⟩
  · rw [h.is, freshGo, if_pos hc, ht]
  · rcases (by omega : j + 1 < k ∨ j = k - 1) with a | a
    · exact h.behind j hj a
    · subst a
      rw [← h.cand (by omega)]; exact hc
theorem Trying.done {s t : ByteArray} {taken : List (List UInt8)} {k f : Nat} (h : Trying s taken k (f + 1) t) (hc : clashesB (L t) taken = false) : L t = freshS (L s) taken := by
  rw [h.is, freshGo, if_neg (by rw [hc]; simp)]

theorem size_app (a b : ByteArray) : (a ++ b).size = a.size + b.size := by
  have := L_app a b
  have := congrArg List.length this
  rw [List.length_append, L_length, L_length, L_length] at this
  exact this

set_option maxHeartbeats 2000000 in
set_option maxRecDepth 100000 in
theorem fresh_any (s : ByteArray) (taken : List ByteArray) (A : Option Addr) (c : Nat) (w : World) (hs : s.size ≤ 1099511627776) (hn : taken.length ≤ 97) (hsm : smallL taken)
    (hsl : Sl w w.heap.size A taken.length 1 (strs taken)) :
    Calls Tryz.prog 79 #[.string s, .slice A taken.length c] w fun e w' => Below w.heap.size w w' ∧ ∃ t : ByteArray, e = .returned (.string t) ∧ L t = freshS (L s) (Ls taken) := by
  have hib := indexByte_first (L s)
  have hfl := firstc_le (L s)
  have hft := firstc_take (L s)
  have hfd := firstc_drop (L s)
  rw [L_length] at hfl
  have HSL := Lib.hid hsl; clear hsl
  have HSM := Lib.hid hsm; clear hsm
  have HFT := Lib.hid hft; clear hft
  have HFD := Lib.hid hfd; clear hfd
  have HIB := Lib.hid hib; clear hib
  generalize hm : (firstc (L s)).length = m at *
  have HM := Lib.hid hm; clear hm
  go_enter Tryz.func79, Tryz.ntmps79
  go_wp2
  go_step3
  go_wp2_with fail
  refine (Tryz.strings_IndexByte s 47 _).mono ?_
  rintro e w1 ⟨rfl, hw⟩
  obtain rfl : w1 = w := hw
  obtain ⟨q, hq, hqc⟩ : ∃ q : Int, Lib.indexByte s.data.toList (47 : Int).toNat.toUInt8 = q ∧ ((47 : UInt8) ∈ L s ∧ q = m ∨ (47 : UInt8) ∉ L s ∧ q = -1) := by
    refine ⟨_, rfl, ?_⟩
    rw [show Lib.indexByte s.data.toList (47 : Int).toNat.toUInt8 = _ from HIB.out]
    by_cases h : (47 : UInt8) ∈ L s
    · left; exact ⟨h, by rw [if_pos h]⟩
    · right; exact ⟨h, by rw [if_neg h]⟩
  rw [hq]
  clear hq
  have HQC := Lib.hid hqc; clear hqc
  go_upto_if 16 with fail
  go_cut [5, 6] (fun s5 s6 wx => ∃ f r : ByteArray, s5 = .string f ∧ s6 = .string r ∧ L f = firstc (L s) ∧ L r = restc (L s) ∧ Below w1.heap.size w1 wx)
  case first =>
    rcases HQC.out with ⟨hsl, rfl⟩ | ⟨hsl, rfl⟩
    · have HS := Lib.hid hsl; clear hsl
      have hm0 : (0 : Int) ≤ (m : Int) := by omega
      have hmz : (m : Int) ≤ (s.size : Int) := by omega
      go_wp2_with fail
      go_quiet (fail)
      go_wp2_with fail
      go_meet
      refine ⟨_, _, rfl, rfl, ?_, ?_, below_drewN (Below.refl _ _) _⟩
      · rw [show L (s.extract 0 m) = (L s).take m from Lib.extract_from_zero s m]; exact HFT.out
      · rw [show L (s.extract m s.size) = (L s).drop m from Lib.extract_to_end s m]; exact HFD.out
    · have HS := Lib.hid hsl; clear hsl
      go_wp2_with fail
      go_meet
      exact ⟨s, ⟨#[]⟩, rfl, rfl, (firstc_lone HS.out).symm, (restc_none HS.out).symm, Below.refl _ _⟩
  case rest =>
    obtain ⟨f, r, rfl, rfl, hf, hr, hbx⟩ := hcut
    have hfz : f.size ≤ s.size := by
      have h1 := firstc_le (L s)
      rw [← L_length, ← L_length, hf]; exact h1
    have hrz : r.size ≤ s.size := by
      have h1 := congrArg List.length (first_rest (L s))
      rw [List.length_append] at h1
      rw [← L_length, ← L_length, hr]; omega
    have HF := Lib.hid hf; clear hf
    have HR := Lib.hid hr; clear hr
    have hfr : f.size + r.size = s.size := by
      have h1 := congrArg List.length (first_rest (L s))
      rw [List.length_append, ← HF.out, ← HR.out, L_length, L_length, L_length] at h1
      exact h1
    have HFR := Lib.hid hfr; clear hfr
    clear HQC HIB HFT HFD
    go_wp2
    go_step3
    go_wp2
    go_loopg [8, 9] (taken.length + 2) (fun g s8 s9 wr => ∃ (k : Nat) (t : ByteArray), s9 = .int .i64 k ∧ s8 = .string t ∧ 1 ≤ k ∧ k ≤ 100 ∧ Below w1.heap.size w1 wr ∧ t.size ≤ s.size + 4 ∧ Hid (Trying s (Ls taken) k g t))
    case atStart => exact ⟨1, s, rfl, rfl, by omega, by omega, hbx, by omega, Lib.hid (by have := Trying.start s (Ls taken); rwa [show (Ls taken).length = taken.length by simp [Ls]] at this)⟩
    case round =>
      obtain ⟨k, t, rfl, rfl, hk1, hk100, hbr, htz, hT⟩ := hrel
      obtain ⟨g, rfl, hkn⟩ := hT.out.left
      have hkn' : k ≤ taken.length + 2 := by rw [show (Ls taken).length = taken.length by simp [Ls]] at hkn; exact hkn
      clear hkn
      obtain ⟨wo, hwo⟩ : ∃ wo : World, wo = wr := ⟨_, rfl⟩
      subst hwo
      go_wp2
      go_loopg [8, 28] taken.length (fun h s8 s28 wy => ∃ i : Nat, i + h = taken.length ∧ s8 = .string t ∧ s28 = .int .i64 i ∧ wy = wo ∧ Hid (∀ j (hj : j < (Ls taken).length), j < i → clashB (L t) (Ls taken)[j] = false))
      case atStart => exact ⟨0, by omega, rfl, rfl, rfl, Lib.hid fun j _ hj => absurd hj (by omega)⟩
      case round =>
        obtain ⟨i, hi, rfl, rfl, hwr, hI⟩ := hrel
        subst hwr
        by_cases hlt : i < taken.length
        · obtain ⟨b, off, rfl, hbl, hcl⟩ := (HSL.out.keep hbr).2 (by omega)
          have hc := hcl i (.string taken[i]) (by simp [strs, hlt])
          have hot : taken[i].size ≤ 140737488355328 := HSM.out _ (List.getElem_mem hlt)
          have hLi : (Ls taken)[i]'(by simp [Ls]; exact hlt) = L taken[i] := by simp [Ls]
          have HLI := Lib.hid hLi; clear hLi hcl
          generalize hoi : taken[i] = o at *
          clear hoi
          cases hcl : clashB (L t) (L o)
          · have HC := Lib.hid hcl; clear hcl
            go_wp2_with (go_at_call 14; refine (clash_any t o _ (by omega) hot).mono ?_; rw [HC.out]; rintro e w2 ⟨rfl, rfl⟩)
            go_roundg (taken.length - (i + 1))
            case measure => omega
            case rel =>
              refine ⟨i + 1, by omega, rfl, by go_num, rfl, Lib.hid fun j hj hji => ?_⟩
              rcases (by omega : j < i ∨ j = i) with h | h
              · exact hI.out j hj h
              · subst h; rw [HLI.out]; exact HC.out
          · have HC := Lib.hid hcl; clear hcl
            have hd2 := decDigits_len (k := k) (by omega)
            go_wp2_with (first | (go_at_call 14; refine (clash_any t o _ (by omega) hot).mono ?_; rw [HC.out]; rintro e w2 ⟨rfl, rfl⟩) | (go_at_call 131; refine (Tryz.strconv_Itoa_small k (by omega) _).mono ?_; rintro e w2 ⟨rfl, rfl⟩))
            have hcand : L (f ++ ⟨#[126]⟩ ++ ⟨(Lib.decDigits k).toArray⟩ ++ r) = candS (L s) k := by
              rw [L_app, L_app, L_app, HF.out, HR.out]
              rfl
            have hsz : (f ++ ⟨#[126]⟩ ++ ⟨(Lib.decDigits k).toArray⟩ ++ r).size ≤ s.size + 4 := by
              have h1 := congrArg List.length hcand
              have h2 := congrArg List.length (first_rest (L s))
              rw [L_length] at h1
              rw [List.length_append, L_length] at h2
              rw [h1]
              simp only [candS, List.length_append, List.length_cons, List.length_nil]
              omega
            go_roundg g
            case measure => omega
            case rel =>
              have hyes : clashesB (L t) (Ls taken) = true := clashes_yes (j := i) (by simp [Ls]; exact hlt) (by rw [HLI.out]; exact HC.out)
              exact ⟨k + 1, _, by go_num, rfl, by omega, by omega, hbr, hsz, Lib.hid (hT.out.next hyes hcand hsz)⟩
        · go_wp2_with fail
          try rw [Exit.noGoto_ret]
          go_ret
          have hno : clashesB (L t) (Ls taken) = false := clashes_no fun j hj => hI.out j hj (by have : (Ls taken).length = taken.length := by simp [Ls]
                                                                                                 omega)
          exact ⟨hbr, t, rfl, hT.out.done hno⟩
end Go.Proofs.YtdgbjhfkmembdaaGreatDoor
