/-
  A path that clashes with none, as a plain function; that it is found within as many steps as there are taken paths. No conditions; no program.
  What Clash and Fresh give. Conditions: texts of at most 2^47 bytes; at most 97 taken paths (Fresh).
  What the program's order gives of ids: Compare, IsSet, place, Find. Conditions: ids of 32 bytes; as each says.
  Ids, refs and keys of the program: compared cell by cell; read from what came in. Conditions: the values are well formed, as each says.
  What the program's order of keys gives. Conditions: the keys are well formed.
  What hunk.Split gives: a text's lines. Conditions: texts of at most a million bytes; the library's variable MaxLen holds a number.
  What the search's diagonal, slide and least give. Conditions: rows of at most 100000 numbers, kept where the search's box says.
  What the search's least gives. Conditions: rows of at most 100000 numbers, kept where the search's box says; a list of at most a million places.
  What the closure of the search's next does: the lesser of two places, if the new one may be. Conditions: the captured variables lie in blocks of their own.
  What the search's next gives: the next list. Conditions: rows of at most 100000 numbers, kept where the search's box says; the list ahead.
  What the search's next gives at 0: the first list. Conditions: rows of at most 100000 numbers, kept where the search's box says.
  A map that the call made, as a plain function from keys to values: looked up, stored into. Over any program; conditions as each says.
  Whole numbers and texts as a map's keys. Conditions: the keys are well formed.
  What the search's cost gives: the whole's cost; and which lists it keeps. Conditions: rows of at most 100000 numbers, kept where the search's box says.
  Steps of a region that draws its order, taken by hand: a call, a new variable, a look into a map, an append of a slice, a store into one cell. Over any program; conditions as each says.
-/
import Derived.Test.YtfjmbcljohobeaaDoorMerged1
import Derived.Test.YtfjmbcljohobeaaDoorProg
import Derived.Lib.SlBytesRow
import Derived.Lib.BytesEntry
import Derived.Handy
import Derived.PlainAid
import Derived.Lib.Hide
import Derived.Deep.QuietTactic
import Derived.BigQuiet
import Derived.StillTailTactics
import Derived.Deep.CutRange
import Derived.Deep.MidRow
import Derived.IntWalk
import Derived.Test.YtfjmbcljohobeaaDoorMyersTest
import Derived.OneCell
import Derived.Laws.OwnMore
import Derived.Maps.Own
import Derived.Maps.OwnOps
import Derived.Maps.OwnSet
import Derived.Maps.Views
import Derived.Deep.RegionHeld
import Derived.OrdersHeld
import Derived.Laws.AppendOwn
namespace Go.Proofs.YtfjmbcljohobeaaDoor

def valOf (l : List UInt8) : Nat := l.foldl (fun a c => 10 * a + (c.toNat - 48)) 0
theorem valOf_snoc (l : List UInt8) (c : UInt8) : valOf (l ++ [c]) = 10 * valOf l + (c.toNat - 48) := by simp [valOf]
theorem digit_toNat {d : Nat} (h : d < 10) : (UInt8.ofNat (48 + d)).toNat = 48 + d := by
  simp; omega
theorem decDigits_step {u : Nat} (h : ¬ u < 10) : Lib.decDigits u = Lib.decDigits (u / 10) ++ [UInt8.ofNat (48 + u % 10)] := by
  rw [Lib.decDigits, dif_neg h]
theorem valOf_digits : ∀ (n u : Nat), u ≤ n → valOf (Lib.decDigits u) = u := by
  intro n
  induction n with
  | zero => intro u hu; rw [show u = 0 by omega, Lib.decDigits_one (by omega)]; decide
  | succ n ih =>
    intro u hu
    by_cases h : u < 10
    · rw [Lib.decDigits_one h]
      have := valOf_snoc [] (UInt8.ofNat (48 + u))
      rw [List.nil_append] at this
      rw [this, digit_toNat h]
      simp [valOf]
    · rw [decDigits_step h, valOf_snoc, ih (u / 10) (by omega), digit_toNat (by omega)]
      omega
theorem decDigits_inj {a b : Nat} (h : Lib.decDigits a = Lib.decDigits b) : a = b := by
  have h1 := valOf_digits a a (Nat.le_refl _)
  have h2 := valOf_digits b b (Nat.le_refl _)
  rw [h] at h1; omega
theorem decDigits_mem : ∀ (n u : Nat), u ≤ n → ∀ c ∈ Lib.decDigits u, 48 ≤ c.toNat ∧ c.toNat ≤ 57 := by
  intro n
  induction n with
  | zero => intro u hu; rw [show u = 0 by omega, Lib.decDigits_one (by omega)]; decide
  | succ n ih =>
    intro u hu c hc
    by_cases h : u < 10
    · rw [Lib.decDigits_one h] at hc
      simp only [List.mem_singleton] at hc
      subst hc
      rw [digit_toNat h]; omega
    · rw [decDigits_step h] at hc
      rcases List.mem_append.1 hc with hc | hc
      · exact ih (u / 10) (by omega) c hc
      · simp only [List.mem_singleton] at hc
        subst hc
        rw [digit_toNat (by omega)]; omega

/-- What stands ahead of the first slash. -/
def firstc (l : List UInt8) : List UInt8 := l.takeWhile (· != 47)
def restc (l : List UInt8) : List UInt8 := l.dropWhile (· != 47)
theorem first_rest (l : List UInt8) : firstc l ++ restc l = l := List.takeWhile_append_dropWhile
theorem firstc_no (l : List UInt8) : (47 : UInt8) ∉ firstc l := by
  induction l with
  | nil => simp [firstc]
  | cons c l ih =>
    unfold firstc at ih ⊢
    rw [List.takeWhile_cons]
    split
    · rename_i hc
      simp only [List.mem_cons, not_or]
      exact ⟨fun e => by rw [← e] at hc; simp at hc, ih⟩
    · simp
theorem firstc_app {a : List UInt8} (ha : (47 : UInt8) ∉ a) (b : List UInt8) : firstc (a ++ 47 :: b) = a := by
  unfold firstc
  rw [List.takeWhile_append_of_pos]
  · simp
  · intro x hx
    simp only [bne_iff_ne]
    intro e; exact ha (e ▸ hx)
theorem firstc_lone {a : List UInt8} (ha : (47 : UInt8) ∉ a) : firstc a = a := by
  have := List.takeWhile_append_of_pos (p := (· != (47 : UInt8))) (l₁ := a) (l₂ := []) (by
    intro x hx
    simp only [bne_iff_ne]
    intro e; exact ha (e ▸ hx))
  simpa [firstc] using this
theorem restc_form (l : List UInt8) : restc l = [] ∨ ∃ b, restc l = 47 :: b := by
  rcases slash_cases l with h | ⟨a, b, rfl, ha⟩
  · left
    have := first_rest l
    rw [firstc_lone h] at this
    have := congrArg List.length this
    simp at this
    exact this
  · right
    have := first_rest (a ++ 47 :: b)
    rw [firstc_app ha] at this
    exact ⟨b, List.append_cancel_left this⟩

theorem under_first {a b : List UInt8} (h : underB a b = true) : firstc a = firstc b := by
  unfold underB at h
  rw [List.isPrefixOf_iff_prefix] at h
  obtain ⟨t, rfl⟩ := h
  rw [List.append_assoc]
  rcases slash_cases a with ha | ⟨x, y, rfl, hx⟩
  · rw [firstc_lone ha]; exact (firstc_app ha _).symm
  · rw [firstc_app hx, List.append_assoc]; exact (firstc_app hx _).symm
theorem clash_first {a b : List UInt8} (h : clashB a b = true) : firstc a = firstc b := by
  unfold clashB at h
  simp only [Bool.or_eq_true, decide_eq_true_eq] at h
  rcases h with (h | h) | h
  · rw [h]
  · exact under_first h
  · exact (under_first h).symm

/-- The candidate of a number. -/
def candS (l : List UInt8) (n : Nat) : List UInt8 := firstc l ++ [126] ++ Lib.decDigits n ++ restc l
theorem cand_first (l : List UInt8) (n : Nat) : firstc (candS l n) = firstc l ++ [126] ++ Lib.decDigits n := by
  have hno : (47 : UInt8) ∉ firstc l ++ [126] ++ Lib.decDigits n := by
    intro h
    rcases List.mem_append.1 h with h | h
    · rcases List.mem_append.1 h with h | h
      · exact firstc_no l h
      · simp at h
    · have := decDigits_mem n n (Nat.le_refl _) _ h
      simp at this
  unfold candS
  rcases restc_form l with h | ⟨b, h⟩
  · rw [h, List.append_nil, firstc_lone hno]
  · rw [h, firstc_app hno]
theorem cand_inj {l : List UInt8} {a b : Nat} (h : firstc (candS l a) = firstc (candS l b)) : a = b := by
  rw [cand_first, cand_first] at h
  exact decDigits_inj (List.append_cancel_left h)

def clashesB (t : List UInt8) (taken : List (List UInt8)) : Bool := taken.any (clashB t)

theorem pigeon {α : Type} [DecidableEq α] (f : Nat → α) (hf : ∀ a b, f a = f b → a = b) : ∀ (T : List α) (J : List Nat), J.Nodup → (∀ j ∈ J, f j ∈ T) → J.length ≤ T.length := by
  intro T
  induction T with
  | nil =>
    intro J _ h
    cases J with
    | nil => simp
    | cons j J => exact absurd (h j (by simp)) (by simp)
  | cons t T ih =>
    intro J hJ h
    by_cases he : ∃ j ∈ J, f j = t
    · obtain ⟨j0, hj0, hf0⟩ := he
      have h1 := ih (J.erase j0) (hJ.erase j0) (by
        intro j hj
        have hm := (List.Nodup.mem_erase_iff hJ).1 hj
        rcases List.mem_cons.1 (h j hm.2) with e | e
        · exact absurd (hf _ _ (e.trans hf0.symm)) hm.1
        · exact e)
      rw [List.length_erase_of_mem hj0] at h1
      simp only [List.length_cons]; omega
    · have h1 := ih J hJ (by
        intro j hj
        rcases List.mem_cons.1 (h j hj) with e | e
        · exact absurd ⟨j, hj, e⟩ he
        · exact e)
      simp only [List.length_cons]; omega

/-- Candidates that clash are no more than the taken ones. -/
theorem cand_few {l : List UInt8} {taken : List (List UInt8)} {m : Nat} (h : ∀ j, 1 ≤ j → j ≤ m → clashesB (candS l j) taken = true) : m ≤ taken.length := by
  have := pigeon (fun j => firstc (candS l (j + 1))) (fun a b e => by have := cand_inj e; omega) (taken.map firstc) (List.range m) List.nodup_range (by
    intro j hj
    have hj' : j < m := by simpa using hj
    have hc := h (j + 1) (by omega) (by omega)
    unfold clashesB at hc
    rw [List.any_eq_true] at hc
    obtain ⟨o, ho, hco⟩ := hc
    rw [show firstc (candS l (j + 1)) = firstc o from clash_first hco]
    exact List.mem_map_of_mem ho)
  simpa using this

/-- Tries on, at number n. -/
def freshGo (l : List UInt8) (taken : List (List UInt8)) : Nat → Nat → List UInt8 → List UInt8
  | 0, _, t => t
  | f + 1, n, t => if clashesB t taken then freshGo l taken f (n + 1) (candS l n) else t
/-- A path that clashes with none. -/
def freshS (l : List UInt8) (taken : List (List UInt8)) : List UInt8 := freshGo l taken (taken.length + 2) 1 l

theorem freshGo_clear {l : List UInt8} {taken : List (List UInt8)} : ∀ (f n : Nat), n + f = taken.length + 3 → 2 ≤ n → (∀ j, 1 ≤ j → j + 1 < n → clashesB (candS l j) taken = true) →
    clashesB (freshGo l taken f n (candS l (n - 1))) taken = false := by
  intro f
  induction f with
  | zero =>
    intro n hn h2 hc
    cases hcl : clashesB (candS l (n - 1)) taken
    · simpa [freshGo] using hcl
    · have := cand_few (l := l) (taken := taken) (m := n - 1) (by
        intro j h1 hj
        rcases (by omega : j + 1 < n ∨ j = n - 1) with a | a
        · exact hc j h1 a
        · rw [a]; exact hcl)
      omega
  | succ f ih =>
    intro n hn h2 hc
    unfold freshGo
    split
    · rename_i hcl
      have := ih (n + 1) (by omega) (by omega) (by
        intro j h1 hj
        rcases (by omega : j + 1 < n ∨ j = n - 1) with a | a
        · exact hc j h1 a
        · rw [a]; exact hcl)
      rwa [Nat.add_sub_cancel] at this
    · rename_i hcl
      simpa using hcl
/-- What is fresh clashes with none. -/
theorem fresh_clear (l : List UInt8) (taken : List (List UInt8)) : clashesB (freshS l taken) taken = false := by
  unfold freshS
  rw [freshGo]
  split
  · have := freshGo_clear (l := l) (taken := taken) (taken.length + 1) 2 (by omega) (by omega) (by intro j h1 h2; omega)
    simpa using this
  · rename_i h
    simpa using h
end Go.Proofs.YtfjmbcljohobeaaDoor
namespace Go.Proofs.YtfjmbcljohobeaaDoor
open Go.RowKit
set_option linter.unusedVariables false

theorem L_app (a b : ByteArray) : L (a ++ b) = L a ++ L b := Go.Joins.data_append a b

set_option maxRecDepth 100000 in
theorem under_any (a b : ByteArray) (w : World) (ha : a.size ≤ 140737488355328) : Calls Tryd.prog 47 #[.string a, .string b] w fun e w' => w = w' ∧ e = .returned (.bool (underB (L a) (L b))) := by
  go_enter Tryd.func47, Tryd.ntmps47
  go_wp2_with fail
  refine (Tryd.strings_HasPrefix b _ _).mono ?_
  rintro e w1 ⟨rfl, hw⟩
  obtain rfl : w1 = w := hw
  go_wp2_with fail
  go_ret
  exact ⟨rfl, ret_bool rfl⟩

set_option maxRecDepth 100000 in
theorem clash_any (a b : ByteArray) (w : World) (ha : a.size ≤ 140737488355328) (hb : b.size ≤ 140737488355328) : Calls Tryd.prog 22 #[.string a, .string b] w fun e w' => w = w' ∧ e = .returned (.bool (clashB (L a) (L b))) := by
  have he := str_beq a b
  by_cases h1 : L a = L b
  · rw [decide_eq_true h1] at he
    rw [show clashB (L a) (L b) = true by simp [clashB, h1]]
    clear h1
    go_enter Tryd.func22, Tryd.ntmps22
    go_wp2_with fail
    go_ret
    exact ⟨rfl, rfl⟩
  · rw [decide_eq_false h1] at he
    have h1' : clashB (L a) (L b) = (underB (L a) (L b) || underB (L b) (L a)) := by simp [clashB, h1]
    rw [h1']
    clear h1 h1'
    cases hu : underB (L a) (L b)
    · have HU := Lib.hid hu; clear hu
      go_enter Tryd.func22, Tryd.ntmps22
      go_wp2_with fail
      refine (under_any a b _ ha).mono ?_
      rw [HU.out]
      rintro e w1 ⟨rfl, rfl⟩
      go_wp2_with fail
      refine (under_any b a _ hb).mono ?_
      rintro e w1 ⟨rfl, rfl⟩
      go_wp2_with fail
      go_ret
      exact ⟨rfl, ret_bool (by simp)⟩
    · have HU := Lib.hid hu; clear hu
      go_enter Tryd.func22, Tryd.ntmps22
      go_wp2_with fail
      refine (under_any a b _ ha).mono ?_
      rw [HU.out]
      rintro e w1 ⟨rfl, rfl⟩
      go_wp2_with fail
      go_ret
      exact ⟨rfl, ret_bool (by simp)⟩

/-- A list of texts, as a slice's cells. -/
def strs (l : List ByteArray) : List Value := l.map Value.string
def Ls (l : List ByteArray) : List (List UInt8) := l.map L
def smallL (l : List ByteArray) : Prop := ∀ t ∈ l, t.size ≤ 140737488355328

theorem indexByte_first (l : List UInt8) : Lib.indexByte l 47 = if (47 : UInt8) ∈ l then ((firstc l).length : Int) else -1 := by
  induction l with
  | nil => rfl
  | cons c l ih =>
    unfold Lib.indexByte
    by_cases hc : c = 47
    · subst hc; simp [firstc]
    · have h1 : ¬ (c == 47) = true := by simpa using hc
      have h2 : (c != 47) = true := by simp [hc]
      rw [if_neg h1, ih]
      by_cases hm : (47 : UInt8) ∈ l
      · have hm' : (47 : UInt8) ∈ c :: l := List.mem_cons_of_mem _ hm
        have h3 : ¬ (((firstc l).length : Int) == -1) = true := by simp
        rw [if_pos hm, if_pos hm', if_neg h3]
        unfold firstc
        rw [List.takeWhile_cons, if_pos h2]
        simp
      · have hm' : (47 : UInt8) ∉ c :: l := by
          intro h
          rcases List.mem_cons.1 h with e | e
          · exact hc e.symm
          · exact hm e
        rw [if_neg hm, if_neg hm']
        rfl

theorem firstc_take (l : List UInt8) : l.take (firstc l).length = firstc l := by
  conv => lhs; arg 2; rw [← first_rest l]
  exact List.take_left
theorem firstc_drop (l : List UInt8) : l.drop (firstc l).length = restc l := by
  conv => lhs; arg 2; rw [← first_rest l]
  exact List.drop_left
theorem firstc_le (l : List UInt8) : (firstc l).length ≤ l.length := by
  have := congrArg List.length (first_rest l)
  simp at this; omega
theorem restc_none {l : List UInt8} (h : (47 : UInt8) ∉ l) : restc l = [] := by
  have := first_rest l
  rw [firstc_lone h] at this
  have := congrArg List.length this
  simp at this
  exact this

theorem clashes_no {t : List UInt8} {taken : List (List UInt8)} (h : ∀ j (hj : j < taken.length), clashB t taken[j] = false) : clashesB t taken = false := by
  unfold clashesB
  rw [List.any_eq_false]
  intro x hx
  obtain ⟨j, hj, rfl⟩ := List.getElem_of_mem hx
  simp [h j hj]
theorem clashes_yes {t : List UInt8} {taken : List (List UInt8)} {j : Nat} (hj : j < taken.length) (h : clashB t taken[j] = true) : clashesB t taken = true := by
  unfold clashesB
  rw [List.any_eq_true]
  exact ⟨_, List.getElem_mem hj, h⟩

theorem decDigits_len {k : Nat} (h : k < 100) : (Lib.decDigits k).length ≤ 2 := by
  by_cases h1 : k < 10
  · rw [Lib.decDigits_one h1]; simp
  · rw [Lib.decDigits_two h1 h]; simp

/-- The loop's state: at number k, with f steps left, the text t is tried. -/
structure Trying (s : ByteArray) (taken : List (List UInt8)) (k f : Nat) (t : ByteArray) : Prop where
  one : 1 ≤ k
  sum : k + f = taken.length + 3
  size : t.size ≤ s.size + 4
  is : freshS (L s) taken = freshGo (L s) taken f k (L t)
  cand : 2 ≤ k → L t = candS (L s) (k - 1)
  behind : ∀ j, 1 ≤ j → j + 1 < k → clashesB (candS (L s) j) taken = true

theorem Trying.start (s : ByteArray) (taken : List (List UInt8)) : Trying s taken 1 (taken.length + 2) s :=
  ⟨by omega, by omega, by omega, rfl, fun h => absurd h (by omega), fun j h1 h2 => absurd h2 (by omega)⟩
theorem Trying.left {s t : ByteArray} {taken : List (List UInt8)} {k f : Nat} (h : Trying s taken k f t) : ∃ g, f = g + 1 ∧ k ≤ taken.length + 2 := by
  have := cand_few (l := L s) (taken := taken) (m := k - 2) (fun j h1 h2 => h.behind j h1 (by omega))
  have := h.sum
  exact ⟨f - 1, by omega, by omega⟩
theorem Trying.next {s t t' : ByteArray} {taken : List (List UInt8)} {k f : Nat} (h : Trying s taken k (f + 1) t) (hc : clashesB (L t) taken = true) (ht : L t' = candS (L s) k) (hz : t'.size ≤ s.size + 4) : Trying s taken (k + 1) f t' := by
  have h1 := h.one
  refine ⟨by omega, by have := h.sum; omega, hz, ?_, fun _ => by rw [Nat.add_sub_cancel]; exact ht, fun j hj hk => ?_⟩
  · rw [h.is, freshGo, if_pos hc, ht]
  · rcases (by omega : j + 1 < k ∨ j = k - 1) with a | a
    · exact h.behind j hj a
    · subst a
      rw [← h.cand (by omega)]; exact hc
theorem Trying.done {s t : ByteArray} {taken : List (List UInt8)} {k f : Nat} (h : Trying s taken k (f + 1) t) (hc : clashesB (L t) taken = false) : L t = freshS (L s) taken := by
  rw [h.is, freshGo, if_neg (by rw [hc]; simp)]

theorem size_app (a b : ByteArray) : (a ++ b).size = a.size + b.size := by
  have := L_app a b
  have := congrArg List.length this
  rw [List.length_append, L_length, L_length, L_length] at this
  exact this

set_option maxHeartbeats 2000000 in
set_option maxRecDepth 100000 in
theorem fresh_any (s : ByteArray) (taken : List ByteArray) (A : Option Addr) (c : Nat) (w : World) (hs : s.size ≤ 1099511627776) (hn : taken.length ≤ 97) (hsm : smallL taken)
    (hsl : Sl w w.heap.size A taken.length 1 (strs taken)) :
    Calls Tryd.prog 38 #[.string s, .slice A taken.length c] w fun e w' => Below w.heap.size w w' ∧ ∃ t : ByteArray, e = .returned (.string t) ∧ L t = freshS (L s) (Ls taken) := by
  have hib := indexByte_first (L s)
  have hfl := firstc_le (L s)
  have hft := firstc_take (L s)
  have hfd := firstc_drop (L s)
  rw [L_length] at hfl
  have HSL := Lib.hid hsl; clear hsl
  have HSM := Lib.hid hsm; clear hsm
  have HFT := Lib.hid hft; clear hft
  have HFD := Lib.hid hfd; clear hfd
  have HIB := Lib.hid hib; clear hib
  generalize hm : (firstc (L s)).length = m at *
  have HM := Lib.hid hm; clear hm
  go_enter Tryd.func38, Tryd.ntmps38
  go_wp2
  go_step3
  go_wp2_with fail
  refine (Tryd.strings_IndexByte s 47 _).mono ?_
  rintro e w1 ⟨rfl, hw⟩
  obtain rfl : w1 = w := hw
  obtain ⟨q, hq, hqc⟩ : ∃ q : Int, Lib.indexByte s.data.toList (47 : Int).toNat.toUInt8 = q ∧ ((47 : UInt8) ∈ L s ∧ q = m ∨ (47 : UInt8) ∉ L s ∧ q = -1) := by
    refine ⟨_, rfl, ?_⟩
    rw [show Lib.indexByte s.data.toList (47 : Int).toNat.toUInt8 = _ from HIB.out]
    by_cases h : (47 : UInt8) ∈ L s
    · left; exact ⟨h, by rw [if_pos h]⟩
    · right; exact ⟨h, by rw [if_neg h]⟩
  rw [hq]
  clear hq
  have HQC := Lib.hid hqc; clear hqc
  go_upto_if 16 with fail
  go_cut [5, 6] (fun s5 s6 wx => ∃ f r : ByteArray, s5 = .string f ∧ s6 = .string r ∧ L f = firstc (L s) ∧ L r = restc (L s) ∧ Below w1.heap.size w1 wx)
  case first =>
    rcases HQC.out with ⟨hsl, rfl⟩ | ⟨hsl, rfl⟩
    · have HS := Lib.hid hsl; clear hsl
      have hm0 : (0 : Int) ≤ (m : Int) := by omega
      have hmz : (m : Int) ≤ (s.size : Int) := by omega
      go_wp2_with fail
      go_quiet (fail)
      go_wp2_with fail
      go_meet
      refine ⟨_, _, rfl, rfl, ?_, ?_, below_drewN (Below.refl _ _) _⟩
      · rw [show L (s.extract 0 m) = (L s).take m from Lib.extract_from_zero s m]; exact HFT.out
      · rw [show L (s.extract m s.size) = (L s).drop m from Lib.extract_to_end s m]; exact HFD.out
    · have HS := Lib.hid hsl; clear hsl
      go_wp2_with fail
      go_meet
      exact ⟨s, ⟨#[]⟩, rfl, rfl, (firstc_lone HS.out).symm, (restc_none HS.out).symm, Below.refl _ _⟩
  case rest =>
    obtain ⟨f, r, rfl, rfl, hf, hr, hbx⟩ := hcut
    have hfz : f.size ≤ s.size := by
      have h1 := firstc_le (L s)
      rw [← L_length, ← L_length, hf]; exact h1
    have hrz : r.size ≤ s.size := by
      have h1 := congrArg List.length (first_rest (L s))
      rw [List.length_append] at h1
      rw [← L_length, ← L_length, hr]; omega
    have HF := Lib.hid hf; clear hf
    have HR := Lib.hid hr; clear hr
    have hfr : f.size + r.size = s.size := by
      have h1 := congrArg List.length (first_rest (L s))
      rw [List.length_append, ← HF.out, ← HR.out, L_length, L_length, L_length] at h1
      exact h1
    have HFR := Lib.hid hfr; clear hfr
    clear HQC HIB HFT HFD
    go_wp2
    go_step3
    go_wp2
    go_loopg [8, 9] (taken.length + 2) (fun g s8 s9 wr => ∃ (k : Nat) (t : ByteArray), s9 = .int .i64 k ∧ s8 = .string t ∧ 1 ≤ k ∧ k ≤ 100 ∧ Below w1.heap.size w1 wr ∧ t.size ≤ s.size + 4 ∧ Hid (Trying s (Ls taken) k g t))
    case atStart => exact ⟨1, s, rfl, rfl, by omega, by omega, hbx, by omega, Lib.hid (by have := Trying.start s (Ls taken); rwa [show (Ls taken).length = taken.length by simp [Ls]] at this)⟩
    case round =>
      obtain ⟨k, t, rfl, rfl, hk1, hk100, hbr, htz, hT⟩ := hrel
      obtain ⟨g, rfl, hkn⟩ := hT.out.left
      have hkn' : k ≤ taken.length + 2 := by rw [show (Ls taken).length = taken.length by simp [Ls]] at hkn; exact hkn
      clear hkn
      obtain ⟨wo, hwo⟩ : ∃ wo : World, wo = wr := ⟨_, rfl⟩
      subst hwo
      go_wp2
      go_loopg [8, 28] taken.length (fun h s8 s28 wy => ∃ i : Nat, i + h = taken.length ∧ s8 = .string t ∧ s28 = .int .i64 i ∧ wy = wo ∧ Hid (∀ j (hj : j < (Ls taken).length), j < i → clashB (L t) (Ls taken)[j] = false))
      case atStart => exact ⟨0, by omega, rfl, rfl, rfl, Lib.hid fun j _ hj => absurd hj (by omega)⟩
      case round =>
        obtain ⟨i, hi, rfl, rfl, hwr, hI⟩ := hrel
        subst hwr
        by_cases hlt : i < taken.length
        · obtain ⟨b, off, rfl, hbl, hcl⟩ := (HSL.out.keep hbr).2 (by omega)
          have hc := hcl i (.string taken[i]) (by simp [strs, hlt])
          have hot : taken[i].size ≤ 140737488355328 := HSM.out _ (List.getElem_mem hlt)
          have hLi : (Ls taken)[i]'(by simp [Ls]; exact hlt) = L taken[i] := by simp [Ls]
          have HLI := Lib.hid hLi; clear hLi hcl
          generalize hoi : taken[i] = o at *
          clear hoi
          cases hcl : clashB (L t) (L o)
          · have HC := Lib.hid hcl; clear hcl
            go_wp2_with (go_at_call 22; refine (clash_any t o _ (by omega) hot).mono ?_; rw [HC.out]; rintro e w2 ⟨rfl, rfl⟩)
            go_roundg (taken.length - (i + 1))
            case measure => omega
            case rel =>
              refine ⟨i + 1, by omega, rfl, by go_num, rfl, Lib.hid fun j hj hji => ?_⟩
              rcases (by omega : j < i ∨ j = i) with h | h
              · exact hI.out j hj h
              · subst h; rw [HLI.out]; exact HC.out
          · have HC := Lib.hid hcl; clear hcl
            have hd2 := decDigits_len (k := k) (by omega)
            go_wp2_with (first | (go_at_call 22; refine (clash_any t o _ (by omega) hot).mono ?_; rw [HC.out]; rintro e w2 ⟨rfl, rfl⟩) | (go_at_call 62; refine (Tryd.strconv_Itoa_small k (by omega) _).mono ?_; rintro e w2 ⟨rfl, rfl⟩))
            have hcand : L (f ++ ⟨#[126]⟩ ++ ⟨(Lib.decDigits k).toArray⟩ ++ r) = candS (L s) k := by
              rw [L_app, L_app, L_app, HF.out, HR.out]
              rfl
            have hsz : (f ++ ⟨#[126]⟩ ++ ⟨(Lib.decDigits k).toArray⟩ ++ r).size ≤ s.size + 4 := by
              have h1 := congrArg List.length hcand
              have h2 := congrArg List.length (first_rest (L s))
              rw [L_length] at h1
              rw [List.length_append, L_length] at h2
              rw [h1]
              simp only [candS, List.length_append, List.length_cons, List.length_nil]
              omega
            go_roundg g
            case measure => omega
            case rel =>
              have hyes : clashesB (L t) (Ls taken) = true := clashes_yes (j := i) (by simp [Ls]; exact hlt) (by rw [HLI.out]; exact HC.out)
              exact ⟨k + 1, _, by go_num, rfl, by omega, by omega, hbr, hsz, Lib.hid (hT.out.next hyes hcand hsz)⟩
        · go_wp2_with fail
          try rw [Exit.noGoto_ret]
          go_ret
          have hno : clashesB (L t) (Ls taken) = false := clashes_no fun j hj => hI.out j hj (by have : (Ls taken).length = taken.length := by simp [Ls]
                                                                                                 omega)
          exact ⟨hbr, t, rfl, hT.out.done hno⟩
end Go.Proofs.YtfjmbcljohobeaaDoor
namespace Go.Proofs.YtfjmbcljohobeaaDoor
open Go.RowKit
set_option linter.unusedVariables false

theorem run_bytesOf {P : Program} {w : World} {b off : Nat} {l : List UInt8} (cap : Nat) (hc : Lib.Bytes w b off ⟨l.toArray⟩) : (Extern.Bytes.bytesOf (.slice (some ⟨b, off, none⟩) l.length cap)).run P w = .ok ⟨l.toArray⟩ w := by
  have h := Lib.run_loadBytesX (P := P) (w := w) (l.map fun c => (c.toNat : Int)) ⟨b, off, none⟩ .empty (fun j x hj => by
    rw [List.getElem?_map] at hj
    rcases hl : l[j]? with _ | c
    · rw [hl] at hj; cases hj
    · rw [hl] at hj
      obtain ⟨hlt, hcj⟩ := List.getElem?_eq_some_iff.1 hl
      have e1 : (⟨b, off, none⟩ : Addr).add j = ⟨b, off + j, none⟩ := by unfold Addr.add; split <;> simp_all
      have hs : j < (⟨l.toArray⟩ : ByteArray).size := by simpa [ByteArray.size] using hlt
      have e2 : (⟨l.toArray⟩ : ByteArray)[j] = l[j] := by
        show (l.toArray)[j] = l[j]
        simp
      simp only [Option.map_some, Option.some.injEq] at hj
      rw [e1, hc j hs, e2, hcj, hj])
  rw [List.length_map] at h
  show (Extern.Bytes.loadBytes ⟨b, off, none⟩ l.length .empty).run P w = _
  rw [h]
  congr 2
  have e3 : Lib.bytesOf (l.map fun c => (c.toNat : Int)) = l := by
    unfold Lib.bytesOf
    rw [List.map_map]
    conv => rhs; rw [← List.map_id l]
    apply List.map_congr_left
    intro c _
    simp
  rw [e3]
  simp [ByteArray.empty, ByteArray.emptyWithCapacity]
  rfl
set_option maxRecDepth 100000 in
theorem bytesCompare_any (a b : List UInt8) (ga oa ca gb ob cb : Nat) (w : World) (ha : Lib.Bytes w ga oa ⟨a.toArray⟩) (hb : Lib.Bytes w gb ob ⟨b.toArray⟩) :
    Calls Tryd.prog 80 #[.slice (some ⟨ga, oa, none⟩) a.length ca, .slice (some ⟨gb, ob, none⟩) b.length cb] w fun e w' => e = .returned (.int .i64 (cmpB a b)) ∧ w' = w := by
  have hcmp : (Extern.BytealgCompare.compare #[.slice (some ⟨ga, oa, none⟩) a.length ca, .slice (some ⟨gb, ob, none⟩) b.length cb]).run Tryd.prog w = .ok (.int .i64 (cmpB a b)) w := by
    change Sem.run Tryd.prog (do pure (goInt (Extern.BytealgCompare.cmp (← Extern.Bytes.bytesOf (.slice (some ⟨ga, oa, none⟩) a.length ca)) (← Extern.Bytes.bytesOf (.slice (some ⟨gb, ob, none⟩) b.length cb))))) w = _
    simp only [Sem.run_bind, Sem.run_pure, run_bytesOf ca ha, run_bytesOf cb hb, Result.andThen]
    rw [Lib.cmp_eq]
    rfl
  go_enter Tryd.func80, Tryd.ntmps80
  go_wp2
  rw [run_callFunc_extern Tryd.func104 (by kernel_rfl) (by kernel_rfl) (by kernel_rfl) (e := Extern.BytealgCompare.compare) (by kernel_rfl), hcmp]
  simp only [Result.andThen]
  rw [Oper.upon_value]
  go_wp2
  go_ret
  exact ⟨rfl, rfl⟩

theorem bytes_box {w : World} {g : Nat} {l : List UInt8} {t : TypeId} {fr : Nat × Nat} (h : w.heap[g]? = some (.cells (idV l).toArray t fr)) : Lib.Bytes w g 0 ⟨l.toArray⟩ := by
  intro i hi
  have hi' : i < l.length := by simpa [ByteArray.size] using hi
  rw [Nat.zero_add, cell_of_row w g i _ t fr h]
  have e2 : (⟨l.toArray⟩ : ByteArray)[i] = l[i] := by
    show (l.toArray)[i] = l[i]
    simp
  rw [e2]
  simp [idV, hi']

set_option maxHeartbeats 1000000 in
set_option maxRecDepth 100000 in
theorem compare_gr (a b : List UInt8) (w : World) (ha : IdOk a) (hb : IdOk b) :
    Calls Tryd.prog 46 #[.agg (idV a).toArray, .agg (idV b).toArray] w fun e w' => Gr w w' ∧ e = .returned (.int .i64 (cmpB a b)) := by
  have h1 : (w.alloc (.cells (idV a).toArray 33)).heap[w.heap.size]? = some (.cells (idV a).toArray 33 (0, 0)) := heap_alloc_new _ _
  go_enter Tryd.func46, Tryd.ntmps46
  go_upto_region 1 with fail
  obtain ⟨W, hW⟩ : ∃ W, (w.alloc (.cells (idV a).toArray 33)).alloc (.cells (idV b).toArray 33) = W := ⟨_, rfl⟩
  have hba : Lib.Bytes W w.heap.size 0 ⟨a.toArray⟩ := by
    rw [← hW]
    exact bytes_box (t := 33) (fr := (0, 0)) ((heap_alloc_old (w.alloc (.cells (idV a).toArray 33)) _ (by simp)).trans h1)
  have hbb : Lib.Bytes W (w.heap.size + 1) 0 ⟨b.toArray⟩ := by
    rw [← hW]
    have := heap_alloc_new (w.alloc (.cells (idV a).toArray 33)) (.cells (idV b).toArray 33)
    rw [World.size_alloc] at this
    exact bytes_box (t := 33) (fr := (0, 0)) this
  have hbW : Gr w W := by rw [← hW]; exact ((Gr.refl _).alloc _).alloc _
  rw [hW]
  clear hW h1
  have HA := Lib.hid hba; clear hba
  have HB := Lib.hid hbb; clear hbb
  have hcall := fun q => bytesCompare_any a b w.heap.size 0 32 (w.heap.size + 1) 0 32 (W.drewN q) (HA.out.drewN q) (HB.out.drewN q)
  rw [show a.length = 32 from ha, show b.length = 32 from hb] at hcall
  have HCALL := Lib.hid hcall; clear hcall
  go_quiet ((go_at_call 80; exact Calls.quiet_of_same (HCALL.out _)))
  go_wp2_with fail
  go_ret
  exact ⟨hbW.drewN _, rfl⟩
theorem compare_any (a b : List UInt8) (w : World) (ha : IdOk a) (hb : IdOk b) :
    Calls Tryd.prog 46 #[.agg (idV a).toArray, .agg (idV b).toArray] w fun e w' => Below w.heap.size w w' ∧ e = .returned (.int .i64 (cmpB a b)) :=
  (compare_gr a b w ha hb).mono fun _ _ ⟨h, e⟩ => ⟨h.below, e⟩
end Go.Proofs.YtfjmbcljohobeaaDoor
namespace Go.Proofs.YtfjmbcljohobeaaDoor
open Go.RowKit
set_option linter.unusedVariables false

theorem cut_mid {α : Type} {a b c : List α} {n m : Nat} (ha : a.length = n) (hb : b.length = m) : ((a ++ (b ++ c)).drop n).take m = b := by
  subst ha; subst hb
  simp
theorem cut_end {α : Type} {a b : List α} {n m : Nat} (ha : a.length = n) (hb : b.length = m) : ((a ++ b).drop n).take m = b := by
  subst ha; subst hb
  simp
def zero32 : List UInt8 := List.replicate 32 0
theorem zero32_ok : IdOk zero32 := by simp [IdOk, zero32]

section
variable {P : Program} {t u i a : TypeId}
theorem kb_id (ht : P.underlying t = some (.array 32 u)) (hu : P.underlying u = some (.int .u8)) (hc : P.cellsOf u = 1) (hct : P.cellsOf t = 32) {l : List UInt8} (hl : IdOk l) : Kb P 2 t (idV l) := by
  have hln : (idV l).length = 32 := by rw [idV_length]; exact hl
  refine kb_arr ht (by rw [hct, hln]) fun j hj => ?_
  rw [hc, Nat.mul_one, List.drop_eq_getElem_cons (by omega), List.take_succ_cons, List.take_zero]
  have hlj : j < l.length := by rw [hl]; exact hj
  rw [show (idV l)[j]'(by omega) = .int .u8 ((l[j]'hlj).toNat : Int) by simp [idV]]
  refine kb_int hu ?_
  simp only [Lit.wf, IntKind.min, IntKind.max, IntKind.signed, IntKind.bits, Bool.and_eq_true]
  have := (l[j]'hlj).toNat_lt
  simp
  omega
end
/-- A ref: an id, an index. -/
abbrev RefD := List UInt8 × Int
def refV (r : RefD) : List Value := idV r.1 ++ [.int .i64 r.2]
def RefOk (r : RefD) : Prop := IdOk r.1 ∧ (Lit.int .i64 r.2).wf = true
theorem refV_length {r : RefD} (h : RefOk r) : (refV r).length = 33 := by
  have := h.1
  unfold IdOk at this
  simp [refV, idV, this]
theorem refV_inj {a b : RefD} (h : refV a = refV b) : a = b := by
  unfold refV at h
  have hl := congrArg List.length h
  simp only [List.length_append, List.length_singleton] at hl
  obtain ⟨h3, h4⟩ := List.append_inj h (by omega)
  simp only [List.cons.injEq, Value.int.injEq, true_and, and_true] at h4
  exact Prod.ext (idV_inj h3) h4
theorem refV_one (r : RefD) : ∀ u ∈ refV r, u.oneCell' = true := by
  intro u hu
  rcases List.mem_append.1 hu with hu | hu
  · exact idV_one _ u hu
  · simp at hu; subst hu; rfl

theorem cellsId : Tryd.prog.cellsOf 33 = 32 := by kernel_rfl
theorem cellsKey : Tryd.prog.cellsOf 35 = 34 := by kernel_rfl
theorem cellsU8 : Tryd.prog.cellsOf 5 = 1 := by kernel_rfl
theorem cellsInt : Tryd.prog.cellsOf 3 = 1 := by kernel_rfl
theorem cellsStr : Tryd.prog.cellsOf 9 = 1 := by kernel_rfl
theorem kbId {l : List UInt8} (hl : IdOk l) : Kb Tryd.prog 2 33 (idV l) := kb_id Tryd.underlying33 Tryd.underlying5 cellsU8 cellsId hl
set_option maxRecDepth 100000 in
theorem eqId : EqT Tryd.prog 33 2 := ⟨by kernel_rfl, of_decide_eq_true (by kernel_rfl), of_decide_eq_true (by kernel_rfl), by kernel_rfl, by kernel_rfl, of_decide_eq_true (by kernel_rfl), by kernel_rfl⟩
set_option maxRecDepth 100000 in
theorem eqKey : EqT Tryd.prog 35 3 := ⟨by kernel_rfl, of_decide_eq_true (by kernel_rfl), of_decide_eq_true (by kernel_rfl), by kernel_rfl, by kernel_rfl, of_decide_eq_true (by kernel_rfl), by kernel_rfl⟩
theorem kbKey {k : KeyD} (hk : KeyOk k) : Kb Tryd.prog 3 35 (keyV k) := by
  have hln := keyV_length hk
  have hid : (idV k.2.1).length = 32 := by rw [idV_length]; exact hk.2.1
  refine kb_struct Tryd.underlying35 (by rw [hln, cellsKey]) (by kernel_rfl) fun f hf => ?_
  simp only [List.mem_cons, List.not_mem_nil, or_false] at hf
  rcases hf with rfl | rfl | rfl
  · simp only [cellsInt, List.drop_zero]
    exact fun d hd => kb_int Tryd.underlying3 hk.1 d (by omega)
  · simp only [cellsId]
    rw [show ((keyV k).drop 1).take 32 = idV k.2.1 from cut_mid (a := [.int .i64 k.1]) rfl hid]
    exact kbId hk.2.1
  · simp only [cellsInt]
    rw [show ((keyV k).drop 33).take 1 = [.int .i64 k.2.2] from by
      show ((.int .i64 k.1 :: (idV k.2.1 ++ [.int .i64 k.2.2])).drop 33).take 1 = _
      rw [show (.int .i64 k.1 :: (idV k.2.1 ++ [Value.int .i64 k.2.2]) : List Value) = (.int .i64 k.1 :: idV k.2.1) ++ [.int .i64 k.2.2] from rfl]
      exact cut_end (by simp [hid]) rfl]
    exact fun d hd => kb_int Tryd.underlying3 hk.2.2 d (by omega)
theorem run_eqId {a b : List UInt8} (ha : IdOk a) (hb : IdOk b) (w : World) : (Op.equalIn 10000 33 (.agg (idV a).toArray) (.agg (idV b).toArray)).run Tryd.prog w = .ok (decide (a = b)) w :=
  eqId.run idV (fun _ _ => idV_inj) (by rw [idV_length, cellsId]; exact ha) (by rw [idV_length, cellsId]; exact hb) (kbId ha) (kbId hb) w
theorem run_eqKey {a b : KeyD} (ha : KeyOk a) (hb : KeyOk b) (w : World) : (Op.equalIn 10000 35 (.agg (keyV a).toArray) (.agg (keyV b).toArray)).run Tryd.prog w = .ok (decide (a = b)) w :=
  eqKey.run keyV (fun _ _ => keyV_inj) (by rw [keyV_length ha, cellsKey]) (by rw [keyV_length hb, cellsKey]) (kbKey ha) (kbKey hb) w
theorem keyedKey : Go.Maps.Keyed Tryd.prog 35 := eqKey.keyed
end Go.Proofs.YtfjmbcljohobeaaDoor
namespace Go.Proofs.YtfjmbcljohobeaaDoor
open Go.RowKit
set_option linter.unusedVariables false

set_option maxRecDepth 100000 in
theorem isNaN_int (x : Int) (w : World) : Calls Tryd.prog 79 #[.int .i64 x] w fun e w' => e = .returned (.bool false) ∧ w' = w := by
  go_enter Tryd.func79, Tryd.ntmps79
  go_wp2_with fail
  go_ret
  exact ⟨rfl, rfl⟩
set_option maxRecDepth 100000 in
theorem cmpInt_any (x y : Int) (w : World) : Calls Tryd.prog 45 #[.int .i64 x, .int .i64 y] w fun e w' => e = .returned (.int .i64 (cmpI x y)) ∧ w' = w := by
  have HE : Hid (cmpI x y = if x < y then -1 else if y < x then 1 else 0) := rfl
  go_enter Tryd.func45, Tryd.ntmps45
  rcases (by omega : x < y ∨ (¬ x < y ∧ y < x) ∨ (¬ x < y ∧ ¬ y < x)) with h | ⟨h, h2⟩ | ⟨h, h2⟩
  all_goals
    go_wp2_with (go_at_call 79; refine (isNaN_int _ _).mono ?_; rintro e w' ⟨rfl, rfl⟩)
    go_ret
  · exact ⟨by rw [HE.out, if_pos h]; rfl, rfl⟩
  · exact ⟨by rw [HE.out, if_neg (by omega), if_pos h2]; rfl, rfl⟩
  · exact ⟨by rw [HE.out, if_neg (by omega), if_neg (by omega)]; rfl, rfl⟩

def or3 (x y z : Int) : Int := if x ≠ 0 then x else if y ≠ 0 then y else z
def at3 (x y z : Int) (i : Nat) : Int := if i = 0 then x else if i = 1 then y else z
set_option maxRecDepth 100000 in
theorem cmpOr_any (x y z : Int) (g : Nat) (w : World) (h0 : w.cell? ⟨g, 0, none⟩ = some (.int .i64 x)) (h1 : w.cell? ⟨g, 1, none⟩ = some (.int .i64 y)) (h2 : w.cell? ⟨g, 2, none⟩ = some (.int .i64 z)) :
    Calls Tryd.prog 44 #[.slice (some ⟨g, 0, none⟩) 3 3] w fun e w' => e = .returned (.int .i64 (or3 x y z)) ∧ w' = w := by
  have hall : Hid (∀ i : Nat, i < 3 → w.cell? ⟨g, i, none⟩ = some (.int .i64 (at3 x y z i))) := by
    intro i hi
    rcases (by omega : i = 0 ∨ i = 1 ∨ i = 2) with rfl | rfl | rfl
    · exact h0
    · exact h1
    · exact h2
  have hstop : Hid (∀ i : Nat, i < 3 → (∀ j, j < i → at3 x y z j = 0) → at3 x y z i ≠ 0 → or3 x y z = at3 x y z i) := by
    intro i hi hb hn
    rcases (by omega : i = 0 ∨ i = 1 ∨ i = 2) with rfl | rfl | rfl
    · unfold or3; rw [if_pos (by simpa [at3] using hn)]; rfl
    · have := hb 0 (by omega)
      unfold or3; rw [if_neg (by simpa [at3] using this), if_pos (by simpa [at3] using hn)]; rfl
    · have a0 := hb 0 (by omega)
      have a1 := hb 1 (by omega)
      unfold or3; rw [if_neg (by simpa [at3] using a0), if_neg (by simpa [at3] using a1)]; rfl
  have hend : Hid ((∀ j, j < 3 → at3 x y z j = 0) → or3 x y z = 0) := by
    intro h
    have a0 := h 0 (by omega)
    have a1 := h 1 (by omega)
    have a2 := h 2 (by omega)
    unfold or3; rw [if_neg (by simpa [at3] using a0), if_neg (by simpa [at3] using a1)]; simpa [at3] using a2
  generalize or3 x y z = r at *
  generalize at3 x y z = f at *
  clear h0 h1 h2
  go_enter Tryd.func44, Tryd.ntmps44
  go_wp2_with fail
  go_loopw [8] (fun t wr => ∃ i : Nat, t = .int .i64 i ∧ wr = w ∧ i ≤ 3 ∧ Hid (∀ j, j < i → f j = 0)) (fun t _ => 3 - (intOf t).toNat)
  case atStart => exact ⟨0, rfl, rfl, by omega, fun j hj => absurd hj (by omega)⟩
  case round =>
    obtain ⟨i, rfl, rfl, hi, hI⟩ := hrel
    by_cases hlt : i < 3
    · have hc := hall.out i hlt
      have i0 : (0 : Int) ≤ (i : Int) := by omega
      have i3 : (i : Int) < 3 := by omega
      have hst := Lib.hid (hstop.out i hlt hI.out)
      have hnx : Hid (f i = 0 → ∀ j, j < i + 1 → f j = 0) := by
        intro h j hj
        rcases (by omega : j < i ∨ j = i) with q | rfl
        · exact hI.out j q
        · exact h
      generalize f i = v at *
      rcases (by omega : v < 0 ∨ 0 < v ∨ v = 0) with hv | hv | rfl
      · have hv2 : decide (v = 0) = false := by simp; omega
        have hv3 : ¬ v = 0 := by omega
        go_wp2_with fail
        go_ret
        exact ⟨by rw [hst.out hv3]; rfl, rfl⟩
      · have hv2 : decide (v = 0) = false := by simp; omega
        have hv3 : ¬ v = 0 := by omega
        go_wp2_with fail
        go_ret
        exact ⟨by rw [hst.out hv3]; rfl, rfl⟩
      · go_wp2_with fail
        go_roundw
        case rel => exact ⟨i + 1, by go_num, by first | rfl | trivial, by omega, hnx.out rfl⟩
        case measure => simp [intOf]; omega
    · have i3 : ¬ (i : Int) < 3 := by omega
      go_wp2_with fail
      go_ret
      exact ⟨by rw [hend.out (fun j hj => hI.out j (by omega))]; rfl, rfl⟩

theorem cmpK_or (a b : KeyD) : or3 (cmpI a.1 b.1) (cmpB a.2.1 b.2.1) (cmpI a.2.2 b.2.2) = cmpK a b := by
  unfold or3 cmpK; rfl
theorem key_cells {k : KeyD} (h : KeyOk k) : (keyV k)[0]? = some (.int .i64 k.1) ∧ (keyV k)[33]? = some (.int .i64 k.2.2) ∧ ∀ j u, (idV k.2.1)[j]? = some u → (keyV k)[1 + j]? = some u := by
  have hid : (idV k.2.1).length = 32 := by rw [idV_length]; exact h.2.1
  refine ⟨rfl, ?_, ?_⟩
  · unfold keyV
    rw [show 33 = 32 + 1 from rfl, List.getElem?_cons_succ, List.getElem?_append_right (by omega), hid]; rfl
  · intro j u hj
    unfold keyV
    rw [Nat.add_comm, List.getElem?_cons_succ, List.getElem?_append_left (List.getElem?_eq_some_iff.1 hj).1]
    exact hj
theorem cells_box {w : World} {g : Nat} {cs : List Value} {t : TypeId} {fr : Nat × Nat} (h : w.heap[g]? = some (.cells cs.toArray t fr)) (j : Nat) : w.cell? ⟨g, j, none⟩ = cs[j]? := by
  rw [cell_of_row w g j _ t fr h]
  simp

set_option maxHeartbeats 2000000 in
set_option maxRecDepth 100000 in
theorem keys_gr (a b : KeyD) (w : World) (ha : KeyOk a) (hb : KeyOk b) :
    Calls Tryd.prog 19 #[.agg (keyV a).toArray, .agg (keyV b).toArray] w fun e w' => Gr w w' ∧ e = .returned (.int .i64 (cmpK a b)) := by
  obtain ⟨a0, a1, a2⟩ := key_cells ha
  obtain ⟨b0, b1, b2⟩ := key_cells hb
  have h1 : (w.alloc (.cells (keyV a).toArray 35)).heap[w.heap.size]? = some (.cells (keyV a).toArray 35 (0, 0)) := heap_alloc_new _ _
  go_enter Tryd.func19, Tryd.ntmps19
  go_upto_region 1 with fail
  obtain ⟨W, hW⟩ : ∃ W, (w.alloc (.cells (keyV a).toArray 35)).alloc (.cells (keyV b).toArray 35) = W := ⟨_, rfl⟩
  have hA : W.heap[w.heap.size]? = some (.cells (keyV a).toArray 35 (0, 0)) := by
    rw [← hW]
    exact (heap_alloc_old (w.alloc (.cells (keyV a).toArray 35)) _ (by simp)).trans h1
  have hB : W.heap[w.heap.size + 1]? = some (.cells (keyV b).toArray 35 (0, 0)) := by
    rw [← hW]
    have := heap_alloc_new (w.alloc (.cells (keyV a).toArray 35)) (.cells (keyV b).toArray 35)
    rw [World.size_alloc] at this
    exact this
  have hbW : Gr w W := by rw [← hW]; exact ((Gr.refl _).alloc _).alloc _
  have hsW : W.heap.size = w.heap.size + 2 := by rw [← hW]; simp
  rw [hW]
  clear hW h1
  have ca0 := (cells_box hA 0).trans a0
  have ca1 := (cells_box hA 33).trans a1
  have ca2 : W.rangeAt w.heap.size 1 (idV a.2.1) := fun j v hj => (cells_box hA (1 + j)).trans (a2 j v hj)
  have cb0 := (cells_box hB 0).trans b0
  have cb1 := (cells_box hB 33).trans b1
  have cb2 : W.rangeAt (w.heap.size + 1) 1 (idV b.2.1) := fun j v hj => (cells_box hB (1 + j)).trans (b2 j v hj)
  clear hA hB a0 a1 a2 b0 b1 b2
  have sa : (Tryd.prog.info? 33).map (·.size) = some (idV a.2.1).length := by rw [idV_length, show a.2.1.length = 32 from ha.2.1]; kernel_rfl
  have sb : (Tryd.prog.info? 33).map (·.size) = some (idV b.2.1).length := by rw [idV_length, show b.2.1.length = 32 from hb.2.1]; kernel_rfl
  have cc := fun (q : World) => compare_gr a.2.1 b.2.1 q ha.2.1 hb.2.1
  have HK := Lib.hid (cmpK_or a b)
  have A0 := Wg.cell ca0 (show w.heap.size < W.heap.size by omega)
  have A1 := Wg.cell ca1 (show w.heap.size < W.heap.size by omega)
  have B0 := Wg.cell cb0 (show w.heap.size + 1 < W.heap.size by omega)
  have B1 := Wg.cell cb1 (show w.heap.size + 1 < W.heap.size by omega)
  have A2 := Lib.hid (Wg.row ca2 (show w.heap.size < W.heap.size by omega))
  have B2 := Lib.hid (Wg.row cb2 (show w.heap.size + 1 < W.heap.size by omega))
  have HBW := Lib.hid hbW
  have CC := Lib.hid cc
  have HSW := Lib.hid hsW
  clear ca0 ca1 ca2 cb0 cb1 cb2 ha hb hsW hbW cc
  refine wp_region_tail_wg 15 (by kernel_rfl) (by kernel_rfl) (by kernel_rfl) (by kernel_rfl) (by kernel_rfl) ?_
  simp only [List.take_succ_cons, List.take_zero, List.drop_succ_cons, List.drop_zero]
  repeat (first
    | go_big_quiet_skip
    | (go_big_quiet_want
       first
         | (refine quiet_val (fun w' hw' => ex_load 33 _ rfl (p := ⟨w.heap.size, 1, none⟩) rfl (run_loadVar_mid w' _ _ _ (idV a.2.1) _ (A2.out w' hw') Tryd.underlying33 rfl sa)) ?_
            go_big_quiet_on
            simp only [Act.put, List.setIfInBounds_toArray, List.set_cons_zero, List.set_cons_succ])
         | (refine quiet_val (fun w' hw' => ex_load 33 _ rfl (p := ⟨w.heap.size + 1, 1, none⟩) rfl (run_loadVar_mid w' _ _ _ (idV b.2.1) _ (B2.out w' hw') Tryd.underlying33 rfl sb)) ?_
            go_big_quiet_on
            simp only [Act.put, List.setIfInBounds_toArray, List.set_cons_zero, List.set_cons_succ])
         | (go_big_quiet_op
            first
              | go_big_quiet_on
              | go_big_quiet_call (first
                  | (go_at_call 45; exact (cmpInt_any _ _ _).mono fun e w'' ⟨he, hw⟩ => ⟨he, ⟨_, hw⟩⟩)
                  | (go_at_call 46; exact Wg.call (fun w' => CC.out w') _)))))
  refine wpQuiet_nil ?_
  rintro w' ⟨k, rfl⟩
  have hk := k.2
  generalize k.val = w2 at *
  have hb2 : Gr w w2 := HBW.out.trans hk
  have HB2 := Lib.hid hb2
  clear A0 A1 B0 B1 hb2 hk k
  go_wp2_with (go_at_call 44; refine (cmpOr_any _ _ _ _ _ (by rw [World.cell?_alloc_new]; rfl) (by rw [World.cell?_alloc_new]; rfl) (by rw [World.cell?_alloc_new]; rfl)).mono ?_; rintro e w' ⟨rfl, rfl⟩)
  go_ret
  exact ⟨HB2.out.alloc _, by rw [HK.out]; rfl⟩
theorem keys_any (a b : KeyD) (w : World) (ha : KeyOk a) (hb : KeyOk b) :
    Calls Tryd.prog 19 #[.agg (keyV a).toArray, .agg (keyV b).toArray] w fun e w' => Below w.heap.size w w' ∧ e = .returned (.int .i64 (cmpK a b)) :=
  (keys_gr a b w ha hb).mono fun _ _ ⟨h, e⟩ => ⟨h.below, e⟩
end Go.Proofs.YtfjmbcljohobeaaDoor
namespace Go.Proofs.YtfjmbcljohobeaaDoor
open Go.RowKit Go.Shelf
set_option linter.unusedVariables false
set_option linter.unusedSimpArgs false

def tenS : ByteArray := ⟨#[10]⟩
theorem afterB (s : ByteArray) : (Lib.splitB tenS 1 (Lib.countB s tenS) s).map L = afterS (L s) := Lib.splitB_data tenS 1 _ s
set_option maxRecDepth 100000 in
theorem splitAfter_any (s : ByteArray) (w : World) (hs : s.size ≤ 1000000) (hg : Glob w) :
    Calls Tryd.prog 56 #[.string s, .string tenS] w fun e w' => ∃ ls : List ByteArray, e = .returned (.slice (some ⟨w.heap.size, 0, none⟩) ls.length ls.length) ∧ ls.map L = afterS (L s) ∧ ls.length ≤ s.size + 1 ∧ w' = w.alloc (.cells (ls.map Value.string).toArray 9) := by
  obtain ⟨m, hm⟩ := hg
  have hle := Lib.countB_le tenS (by decide) s.size s (Nat.le_refl _)
  have hlen := Lib.splitB_all tenS (by decide) 1 _ s rfl
  have c := Tryd.strings_genSplit s tenS 1 (-1) (Lib.countB s tenS + 1) m w (by omega) hm (by decide) (by decide) (by decide) (by decide) (by rw [if_pos (by decide)]; omega)
  rw [Nat.add_sub_cancel, hlen] at c
  have e2 : Lib.cellsOf (Lib.splitB tenS 1 (Lib.countB s tenS) s) (Lib.countB s tenS + 1) = ((Lib.splitB tenS 1 (Lib.countB s tenS) s).map Value.string).toArray := by rw [← hlen]; exact Lib.cellsOf_full _
  rw [e2] at c
  have ha := afterB s
  generalize Lib.splitB tenS 1 (Lib.countB s tenS) s = ls at *
  rw [← hlen] at c
  have HA := Lib.hid (And.intro ha (show ls.length ≤ s.size + 1 by omega))
  clear ha e2 hlen hle
  go_enter Tryd.func56, Tryd.ntmps56
  go_wp2_with (go_at_call 88; refine c.mono ?_; rintro e w' ⟨rfl, hw⟩; rw [hw])
  go_ret
  exact ⟨ls, rfl, HA.out.1, HA.out.2, rfl⟩
set_option maxRecDepth 100000 in
theorem clip_any (g n c : Nat) (w : World) (hc : n ≤ c) : Calls Tryd.prog 57 #[.slice (some ⟨g, 0, none⟩) n c] w fun e w' => w = w' ∧ e = .returned (.slice (some ⟨g, 0, none⟩) n n) := by
  have h0 : (0 : Int) ≤ (n : Int) := by omega
  have h1 : (n : Int) ≤ (c : Int) := by omega
  go_enter Tryd.func57, Tryd.ntmps57
  go_wp2_with fail
  go_ret
  exact ⟨rfl, rfl⟩
theorem L_nil {p : ByteArray} : L p = [] ↔ p.toList.isEmpty = true := by
  rw [toList_L, List.isEmpty_iff]
set_option maxRecDepth 100000 in
theorem split_row (s : ByteArray) (w : World) (hs : s.size ≤ 1000000) (hg : Glob w) :
    Calls Tryd.prog 28 #[.string s] w fun e w' => Below w.heap.size w w' ∧ ∃ g ls, e = .returned (.slice (some ⟨g, 0, none⟩) ls.length ls.length) ∧ ls.map L = linesS (L s) ∧ g < w'.heap.size ∧ ∀ j u, (strs ls)[j]? = some u → w'.cell? ⟨g, j, none⟩ = some u := by
  have hsa := splitAfter_any s w hs hg
  go_enter Tryd.func28, Tryd.ntmps28
  go_wp2_with fail
  refine hsa.mono ?_
  rintro e w2 ⟨l0, rfl, hl0, hl1, rfl⟩
  clear hsa
  have hb2 : Below w.heap.size w (w.alloc (.cells (l0.map Value.string).toArray 9)) := (Below.refl _ _).alloc (Nat.le_refl _) _
  have hbox : (w.alloc (.cells (l0.map Value.string).toArray 9)).heap[w.heap.size]? = some (.cells (l0.map Value.string).toArray 9 (0, 0)) := heap_alloc_new _ _
  generalize w.alloc (.cells (l0.map Value.string).toArray 9) = w2 at *
  have hgz : w.heap.size < w2.heap.size := (Array.getElem?_eq_some_iff.1 hbox).1
  obtain ⟨ls, p, rfl, hcs⟩ : ∃ ls p, l0 = ls ++ [p] ∧ ((L p = [] ∧ ls.map L = linesS (L s)) ∨ (L p ≠ [] ∧ (ls ++ [p]).map L = linesS (L s))) := by
    rcases afterS_cut (L s) with ⟨l, h1, h2⟩ | ⟨l, q, h1, h2, h3⟩
    · rw [h1] at hl0
      obtain ⟨ls, t, rfl, e1, e2⟩ := List.map_eq_append_iff.1 hl0
      obtain ⟨p, rfl, hp⟩ := List.map_eq_singleton_iff.1 e2
      exact ⟨ls, p, rfl, .inl ⟨hp, e1.trans h2⟩⟩
    · rw [h1] at hl0
      obtain ⟨ls, t, rfl, e1, e2⟩ := List.map_eq_append_iff.1 hl0
      obtain ⟨p, rfl, hp⟩ := List.map_eq_singleton_iff.1 e2
      exact ⟨ls, p, rfl, .inr ⟨by rw [hp]; exact h2, by rw [List.map_append, e1, List.map_cons, List.map_nil, hp]; exact h3⟩⟩
  have hcell : ∀ j u, (strs (ls ++ [p]))[j]? = some u → w2.cell? ⟨w.heap.size, j, none⟩ = some u := fun j u hj => (cells_box hbox j).trans (by simpa [strs] using hj)
  have hlen : (ls ++ [p]).length = ls.length + 1 := by simp
  have hlen' := hlen
  have hcp := hcell ls.length (.string p) (by simp [strs])
  have HC := Lib.hid hcell
  rw [hlen]
  obtain ⟨n, hn⟩ : ∃ n, ls.length = n := ⟨_, rfl⟩
  have HB2 := Lib.hid hb2; have HN := Lib.hid hn; have HL := Lib.hid hlen
  rw [hlen', hn] at hl1
  rw [hn] at hcp ⊢
  clear hcell hbox hl0 hlen hlen' hb2 hn
  have e1 : IntKind.i64.wrap ((n : Int) + 1 - 1) = (n : Int) := by rw [IntWalk.i64_in _ (by omega)]; omega
  have k0 : (0 : Int) ≤ (n : Int) := by omega
  have k1 : (n : Int) < (n : Int) + 1 := by omega
  have k2 : (n : Int) ≤ (n : Int) + 1 := by omega
  rcases hcs with ⟨hp, hls⟩ | ⟨hp, hls⟩
  · have hpe := L_nil.1 hp
    have HLS := Lib.hid hls
    have hcl := clip_any w.heap.size n (n + 1) w2 (by omega)
    clear hp hls
    go_wp2_with (go_at_call 57; refine hcl.mono ?_; rintro e w3 ⟨rfl, rfl⟩)
    go_ret
    refine ⟨HB2.out, _, ls, by rw [HN.out]; rfl, HLS.out, hgz, fun j u hj => ?_⟩
    refine HC.out j u ?_
    have hjl := (List.getElem?_eq_some_iff.1 hj).1
    rw [show strs (ls ++ [p]) = strs ls ++ [.string p] by simp [strs], List.getElem?_append_left hjl]
    exact hj
  · have hpe : p.toList.isEmpty = false := by rw [Bool.eq_false_iff]; exact fun h => hp (L_nil.2 h)
    have HLS := Lib.hid hls
    have hcl := clip_any w.heap.size (n + 1) (n + 1) w2 (by omega)
    clear hp hls
    go_wp2_with (go_at_call 57; refine hcl.mono ?_; rintro e w3 ⟨rfl, rfl⟩)
    go_ret
    refine ⟨HB2.out, _, ls ++ [p], by rw [HL.out, HN.out]; rfl, HLS.out, hgz, fun j u hj => ?_⟩
    exact HC.out j u hj
theorem split_any (s : ByteArray) (w : World) (hs : s.size ≤ 1000000) (hg : Glob w) :
    Calls Tryd.prog 28 #[.string s] w fun e w' => Below w.heap.size w w' ∧ ∃ A c ls, e = .returned (.slice A ls.length c) ∧ ls.map L = linesS (L s) ∧ Sl w' w'.heap.size A ls.length 1 (strs ls) :=
  (split_row s w hs hg).mono fun e w' ⟨h1, g, ls, h2, h3, h4, h5⟩ => ⟨h1, _, _, ls, h2, h3, by simp [strs], fun _ => ⟨g, 0, rfl, h4, fun j u hj => by rw [Nat.zero_add]; exact h5 j u hj⟩⟩
end Go.Proofs.YtfjmbcljohobeaaDoor
namespace Go.Proofs.YtfjmbcljohobeaaDoor
open Go.RowKit Go.Maps Go.Shelf
set_option linter.unusedVariables false
set_option linter.unusedSimpArgs false

def i32V (l : List Int) : List Value := l.map fun x => .int .i32 x
theorem ret_i32 {x y : Int} (h : x = y) : Ending.returned (.int .i32 x) = .returned (.int .i32 y) := by rw [h]
set_option maxHeartbeats 2000000 in
set_option maxRecDepth 100000 in
theorem diag_any (B : Nat) (A A' : Option Addr) (n m ca cb : Nat) (d t : Nat) (w : World) (hB : B < w.heap.size) (cA : w.cell? ⟨B, 0, none⟩ = some (.slice A n ca)) (cB : w.cell? ⟨B, 1, none⟩ = some (.slice A' m cb))
    (hn : n ≤ 100000) (hm : m ≤ 100000) (hd : d ≤ 1000000) (ht : t ≤ 1000000) :
    Calls Tryd.prog 109 #[.pointer (some ⟨B, 0, none⟩), .int .i64 (d : Int), .int .i64 (t : Int)] w fun e w' => e = .returned (.int .i64 ((n : Int) - m - d + 2 * t)) ∧ Gr w w' := by
  have c1 := Wg.cell cA hB
  have c2 := Wg.cell cB hB
  have e1 : IntKind.i64.wrap ((n : Int) - (m : Int)) = (n : Int) - m := IntWalk.i64_in _ (by omega)
  have e2 : IntKind.i64.wrap ((n : Int) - (m : Int) - (d : Int)) = (n : Int) - m - d := IntWalk.i64_in _ (by omega)
  have e3 : IntKind.i64.wrap (2 * (t : Int)) = 2 * (t : Int) := IntWalk.i64_in _ (by omega)
  have e4 : IntKind.i64.wrap ((n : Int) - (m : Int) - (d : Int) + 2 * (t : Int)) = (n : Int) - m - d + 2 * t := IntWalk.i64_in _ (by omega)
  go_enter Tryd.func109, Tryd.ntmps109
  go_wp2_with fail
  refine wp_region_wr (by kernel_rfl) (by kernel_rfl) ?_
  repeat (first
    | go_big_quiet_skip
    | (go_big_quiet_want
       first
         | (go_big_quiet_op
            first
              | go_big_quiet_on
              | go_big_quiet_call (first | (fail)))))
  refine wpQuiet_nil ?_
  rintro w' ⟨kk, rfl⟩
  have hkk := kk.2
  generalize kk.val = w11 at *

  go_wp2_with fail
  go_ret
  exact ⟨rfl, hkk⟩
set_option maxHeartbeats 4000000 in
set_option maxRecDepth 100000 in
theorem slide_any (a b : List Int) (B : Nat) (A A' : Option Addr) (ca cb : Nat) (i : Nat) (k : Int) (w : World) (hB : B < w.heap.size) (cA : w.cell? ⟨B, 0, none⟩ = some (.slice A a.length ca)) (cB : w.cell? ⟨B, 1, none⟩ = some (.slice A' b.length cb))
    (hsa : Sl w w.heap.size A a.length 1 (i32V a)) (hsb : Sl w w.heap.size A' b.length 1 (i32V b)) (hn : a.length ≤ 100000) (hm : b.length ≤ 100000) (hi : i ≤ a.length) (hj : (i : Int) - k ≤ b.length) (hk : -1000000 ≤ k ∧ k ≤ 1000000) :
    Calls Tryd.prog 139 #[.pointer (some ⟨B, 0, none⟩), .int .i64 (i : Int), .int .i64 k] w fun e w' => e = .returned (.int .i32 (slideS a b i k : Int)) ∧ Gr w w' := by
  have HSA := Lib.hid hsa; have HSB := Lib.hid hsb; have HCA := Lib.hid cA; have HCB := Lib.hid cB
  clear hsa hsb cA cB
  go_enter Tryd.func139, Tryd.ntmps139
  go_wp2_with fail
  go_loopw [1] (fun t wr => ∃ x : Nat, x ≤ i ∧ t = .int .i64 x ∧ Gr w wr ∧ Hid (slideS a b x k = slideS a b i k)) (fun t _ => (intOf t).toNat)
  case atStart => exact ⟨i, Nat.le_refl _, rfl, Gr.refl _, Lib.hid rfl⟩
  case round =>
    obtain ⟨x, hx, rfl, hgr, hS⟩ := hrel
    have hbl := hgr.below
    have c1 := Wg.cell (w := wr) ((hbl.cell (p := ⟨B, 0, none⟩) hB).trans HCA.out) (Nat.lt_of_lt_of_le hB hbl.size)
    have c2 := Wg.cell (w := wr) ((hbl.cell (p := ⟨B, 1, none⟩) hB).trans HCB.out) (Nat.lt_of_lt_of_le hB hbl.size)
    have HGR := Lib.hid hgr
    rcases Nat.eq_zero_or_pos x with hx0 | hx0
    · have d1 : decide ((0 : Int) < (x : Int)) = false := by rw [decide_eq_false_iff_not]; omega
      have d2 : ¬ (0 : Int) < (x : Int) := by omega
      have d3 : decide (0 < x) = false := by rw [decide_eq_false_iff_not]; omega
      have hrs := hS.out
      rw [hx0] at hrs
      have HRS := Lib.hid (show (x : Int) = (slideS a b i k : Int) by rw [hx0, ← hrs]; rfl)
      have e5 : IntKind.i32.wrap (x : Int) = (x : Int) := IntWalk.i32_in _ (by omega)
      clear hx0 hrs hgr hbl
      go_wp2_with fail
      refine wp_region_wr (by kernel_rfl) (by kernel_rfl) ?_
      repeat (first
        | go_big_quiet_skip
        | (go_big_quiet_want
           first
             | (go_big_quiet_op
                first
                  | go_big_quiet_on
                  | go_big_quiet_call (first | (fail)))))
      refine wpQuiet_nil ?_
      rintro w' ⟨kk, rfl⟩
      have hkk := kk.2
      generalize kk.val = w11 at *

      clear c1 c2 d1 d2 d3
      go_wp2_with fail
      go_ret
      exact ⟨ret_i32 HRS.out, HGR.out.trans hkk⟩
    · obtain ⟨q, hq⟩ : ∃ q, x = q + 1 := ⟨x - 1, by omega⟩
      have d1 : decide ((0 : Int) < (x : Int)) = true := by rw [decide_eq_true_iff]; omega
      have d2 : (0 : Int) < (x : Int) := by omega
      have d3 : decide (0 < x) = true := by rw [decide_eq_true_iff]; omega
      have e1 : IntKind.i64.wrap ((x : Int) - k) = (x : Int) - k := IntWalk.i64_in _ (by omega)
      have e5 : IntKind.i32.wrap (x : Int) = (x : Int) := IntWalk.i32_in _ (by omega)
      by_cases hp : 0 < (x : Int) - k
      · have d4 : decide (k < (x : Int)) = true := by rw [decide_eq_true_iff]; omega
        have d5 : k < (x : Int) := by omega
        obtain ⟨j, hjq⟩ : ∃ j : Nat, (j : Int) = (x : Int) - k - 1 := ⟨((x : Int) - k - 1).toNat, by omega⟩
        have hqa : q < a.length := by omega
        have hjb : j < b.length := by omega
        have e2 : IntKind.i64.wrap ((x : Int) - 1) = (q : Int) := by rw [IntWalk.i64_in _ (by omega)]; omega
        have e3 : IntKind.i64.wrap ((x : Int) - k - 1) = (j : Int) := by rw [IntWalk.i64_in _ (by omega)]; omega
        obtain ⟨bA, oA, rfl, hbA, hcA⟩ := (HSA.out.keep hbl).2 (by omega)
        obtain ⟨bB, oB, rfl, hbB, hcB⟩ := (HSB.out.keep hbl).2 (by omega)
        have ca := Wg.cell (w := wr) (hcA q (.int .i32 a[q]) (by simp [i32V, hqa])) (Nat.lt_of_lt_of_le hbA hbl.size)
        have cb := Wg.cell (w := wr) (hcB j (.int .i32 b[j]) (by simp [i32V, hjb])) (Nat.lt_of_lt_of_le hbB hbl.size)
        have q0 : (0 : Int) ≤ (q : Int) := by omega
        have q1 : (q : Int) < (a.length : Int) := by omega
        have j0 : (0 : Int) ≤ (j : Int) := by omega
        have j1 : (j : Int) < (b.length : Int) := by omega
        by_cases he : a[q] = b[j]
        · have hst : slideS a b q k = slideS a b i k := by
            have hcond : 0 < (q : Int) + 1 - k ∧ a[q]? = b[((q : Int) - k).toNat]? := ⟨by omega, by rw [List.getElem?_eq_getElem hqa, he, show ((q : Int) - k).toNat = j by omega, List.getElem?_eq_getElem hjb]⟩
            rw [← hS.out, hq, slideS, if_pos hcond]
          have HST := Lib.hid hst
          have hv : (a[q] == b[j]) = true := by rw [he]; exact beq_self_eq_true _
          generalize a[q] = u at *
          generalize b[j] = v at *
          have HQ : Hid (q + 1 = x) := hq.symm
          clear hcA hcB hst he hq hjq hgr hbl hS
          go_wp2_with fail
          refine wp_region_wr (by kernel_rfl) (by kernel_rfl) ?_
          repeat (first
            | go_big_quiet_skip
            | (go_big_quiet_want
               first
                 | (go_big_quiet_op
                    first
                      | go_big_quiet_on
                      | go_big_quiet_call (first | (fail)))))
          refine wpQuiet_nil ?_
          rintro w' ⟨kk, rfl⟩
          have hkk := kk.2
          generalize kk.val = w11 at *

          clear c1 c2 ca cb d1 d2 d3 d4 d5 hv
          go_wp2_with fail
          go_roundw
          case rel => exact ⟨q, by have := HQ.out; omega, by go_num, HGR.out.trans hkk, HST⟩
          case measure => have := HQ.out; simp [intOf]; omega
        · have hst : slideS a b x k = x := by
            have hcn : ¬ (0 < (q : Int) + 1 - k ∧ a[q]? = b[((q : Int) - k).toNat]?) := by
              rintro ⟨_, h⟩
              rw [List.getElem?_eq_getElem hqa, show ((q : Int) - k).toNat = j by omega, List.getElem?_eq_getElem hjb] at h
              exact he (Option.some.inj h)
            rw [hq, slideS, if_neg hcn]
          have HRS := Lib.hid (show (x : Int) = (slideS a b i k : Int) by rw [← hS.out, hst])
          have hv : (a[q] == b[j]) = false := by rw [beq_eq_false_iff_ne]; exact he
          generalize a[q] = u at *
          generalize b[j] = v at *
          clear hcA hcB hst he hq hjq hgr hbl hS
          go_wp2_with fail
          refine wp_region_wr (by kernel_rfl) (by kernel_rfl) ?_
          repeat (first
            | go_big_quiet_skip
            | (go_big_quiet_want
               first
                 | (go_big_quiet_op
                    first
                      | go_big_quiet_on
                      | go_big_quiet_call (first | (fail)))))
          refine wpQuiet_nil ?_
          rintro w' ⟨kk, rfl⟩
          have hkk := kk.2
          generalize kk.val = w11 at *

          clear c1 c2 ca cb d1 d2 d3 d4 d5 hv
          go_wp2_with fail
          go_ret
          exact ⟨ret_i32 HRS.out, HGR.out.trans hkk⟩
      · have d4 : decide (k < (x : Int)) = false := by rw [decide_eq_false_iff_not]; omega
        have d5 : ¬ k < (x : Int) := by omega
        have hst : slideS a b x k = x := by
          have hcn : ¬ (0 < (q : Int) + 1 - k ∧ a[q]? = b[((q : Int) - k).toNat]?) := by
            rintro ⟨h, _⟩
            omega
          rw [hq, slideS, if_neg hcn]
        have HRS := Lib.hid (show (x : Int) = (slideS a b i k : Int) by rw [← hS.out, hst])
        clear hst hq hgr hbl hS
        go_wp2_with fail
        refine wp_region_wr (by kernel_rfl) (by kernel_rfl) ?_
        repeat (first
          | go_big_quiet_skip
          | (go_big_quiet_want
             first
               | (go_big_quiet_op
                  first
                    | go_big_quiet_on
                    | go_big_quiet_call (first | (fail)))))
        refine wpQuiet_nil ?_
        rintro w' ⟨kk, rfl⟩
        have hkk := kk.2
        generalize kk.val = w11 at *

        clear c1 c2 d1 d2 d3 d4 d5
        go_wp2_with fail
        go_ret
        exact ⟨ret_i32 HRS.out, HGR.out.trans hkk⟩
end Go.Proofs.YtfjmbcljohobeaaDoor
namespace Go.Proofs.YtfjmbcljohobeaaDoor
open Go.RowKit Go.Maps Go.Shelf
set_option linter.unusedVariables false
set_option linter.unusedSimpArgs false

def natV (l : List Nat) : List Value := l.map fun x : Nat => .int .i32 (x : Int)
theorem ret_i64 {x y : Int} (h : x = y) : Ending.returned (.int .i64 x) = .returned (.int .i64 y) := by rw [h]
theorem addr_eq {b0 o0 b1 o1 : Nat} (h : some (⟨b0, o0, none⟩ : Addr) = some ⟨b1, o1, none⟩) : b1 = b0 ∧ o1 = o0 := by
  injection h with h
  injection h with h1 h2
  exact ⟨h1.symm, h2.symm⟩
set_option maxHeartbeats 2000000 in
set_option maxRecDepth 100000 in
theorem least_any (a b : List Int) (B : Nat) (A A' Al : Option Addr) (ca cb cl : Nat) (d : Nat) (l : List Nat) (k : Int) (w : World) (hB : B < w.heap.size) (cA : w.cell? ⟨B, 0, none⟩ = some (.slice A a.length ca)) (cB : w.cell? ⟨B, 1, none⟩ = some (.slice A' b.length cb))
    (hsl : Sl w w.heap.size Al l.length 1 (natV l)) (hl : l.length ≤ 1000000) (hle : ∀ x ∈ l, x ≤ never) (hn : a.length ≤ 100000) (hm : b.length ≤ 100000) (hd : d ≤ 1000000) (hk : -1000000 ≤ k ∧ k ≤ 1000000) :
    Calls Tryd.prog 84 #[.pointer (some ⟨B, 0, none⟩), .int .i64 (d : Int), .slice Al l.length cl, .int .i64 k] w fun e w' => e = .returned (.int .i64 (leastS a b d l k : Int)) ∧ Gr w w' := by
  have hdg := diag_any B A A' a.length b.length ca cb d 0 w hB cA cB hn hm hd (by omega)
  obtain ⟨D0, hD0⟩ : ∃ D0 : Int, (a.length : Int) - b.length - d + 2 * ((0 : Nat) : Int) = D0 := ⟨_, rfl⟩
  rw [hD0, show ((0 : Nat) : Int) = 0 from rfl] at hdg
  have hdz : dg a b d 0 = D0 := by rw [← hD0]; rfl
  have HSL := Lib.hid hsl; have HLE := Lib.hid hle
  clear hsl hle
  obtain ⟨u, hu⟩ : ∃ u : Int, k - D0 = u := ⟨_, rfl⟩
  have e0 : IntKind.i64.wrap (k - D0) = u := by rw [IntWalk.i64_in _ (by omega)]; exact hu
  have HU : Hid (k - dg a b d 0 = u) := by rw [hdz]; exact hu
  have hur : -3000000 ≤ u ∧ u ≤ 3000000 := by omega
  clear hu hdz hD0 cA cB
  rcases (by omega : u < 0 ∨ 0 ≤ u) with h0 | h0
  · have HV := Lib.hid (show (2147483647 : Int) = (leastS a b d l k : Int) by unfold leastS; rw [HU.out, if_pos (.inl h0)]; rfl)
    have d1 : decide (u < 0) = true := by rw [decide_eq_true_iff]; exact h0
    go_enter Tryd.func84, Tryd.ntmps84
    go_wp2_with (go_at_call 109; refine hdg.mono ?_; rintro e w2 ⟨rfl, hg2⟩)
    go_ret
    exact ⟨ret_i64 HV.out, hg2⟩
  · have h0' : ¬ u < 0 := by omega
    have d1 : decide (u < 0) = false := by rw [decide_eq_false_iff_not]; exact h0'
    have hm1 : u.tmod 2 = u % 2 := Int.tmod_eq_emod_of_nonneg h0
    have hq1 : u.tdiv 2 = u / 2 := Int.tdiv_eq_ediv_of_nonneg h0
    rcases (by omega : u % 2 = 1 ∨ u % 2 = 0) with h1 | h1
    · have HV := Lib.hid (show (2147483647 : Int) = (leastS a b d l k : Int) by unfold leastS; rw [HU.out, if_pos (.inr (.inl (by omega)))]; rfl)
      rw [h1] at hm1
      clear h1 hq1
      go_enter Tryd.func84, Tryd.ntmps84
      go_wp2_with (go_at_call 109; refine hdg.mono ?_; rintro e w2 ⟨rfl, hg2⟩)
      go_ret
      exact ⟨ret_i64 HV.out, hg2⟩
    · rw [h1] at hm1
      obtain ⟨q, hq⟩ : ∃ q : Nat, u / 2 = (q : Int) := ⟨(u / 2).toNat, by omega⟩
      rw [hq] at hq1
      have e6 : IntKind.i64.wrap (q : Int) = (q : Int) := IntWalk.i64_in _ (by omega)
      by_cases hlen : q < l.length
      · have HV := Lib.hid (show ((l[q] : Nat) : Int) = (leastS a b d l k : Int) by
          unfold leastS
          rw [HU.out, if_neg (by omega), hq, Int.toNat_natCast, List.getD_eq_getElem?_getD, List.getElem?_eq_getElem hlen]
          rfl)
        have d2 : ¬ (l.length : Int) ≤ (q : Int) := by omega
        have d3 : decide ((l.length : Int) ≤ (q : Int)) = false := by rw [decide_eq_false_iff_not]; exact d2
        have q0 : (0 : Int) ≤ (q : Int) := by omega
        have q1 : (q : Int) < (l.length : Int) := by omega
        have hxx : l[q] ≤ never := HLE.out _ (List.getElem_mem hlen)
        have e7 : IntKind.i64.wrap ((l[q] : Nat) : Int) = ((l[q] : Nat) : Int) := IntWalk.i64_in _ (by unfold never at hxx; omega)
        have hcell : ∀ u : World, Gr w u → ∃ b off, Al = some ⟨b, off, none⟩ ∧ u.cell? ⟨b, off + q, none⟩ = some (.int .i32 ((l[q] : Nat) : Int)) := by
          intro u hu
          obtain ⟨b, off, e, hb, hc⟩ := (HSL.out.keep hu.below).2 (by omega)
          exact ⟨b, off, e, hc q _ (by simp [natV, hlen])⟩
        have HC := Lib.hid hcell
        obtain ⟨b0, o0, rfl, _⟩ := hcell w (Gr.refl w)
        generalize l[q] = x at *
        clear h1 hq hcell hxx
        go_enter Tryd.func84, Tryd.ntmps84
        go_wp2_with (go_at_call 109; refine hdg.mono ?_; rintro e w2 ⟨rfl, hg2⟩; obtain ⟨b1, o1, hbo, hc2⟩ := HC.out w2 hg2; obtain ⟨rfl, rfl⟩ := addr_eq hbo)
        go_ret
        exact ⟨ret_i64 HV.out, hg2⟩
      · have HV := Lib.hid (show (2147483647 : Int) = (leastS a b d l k : Int) by unfold leastS; rw [HU.out, if_pos (.inr (.inr (by omega)))]; rfl)
        have d2 : (l.length : Int) ≤ (q : Int) := by omega
        have d3 : decide ((l.length : Int) ≤ (q : Int)) = true := by rw [decide_eq_true_iff]; exact d2
        clear h1 hq
        go_enter Tryd.func84, Tryd.ntmps84
        go_wp2_with (go_at_call 109; refine hdg.mono ?_; rintro e w2 ⟨rfl, hg2⟩)
        go_ret
        exact ⟨ret_i64 HV.out, hg2⟩
end Go.Proofs.YtfjmbcljohobeaaDoor
namespace Go.Proofs.YtfjmbcljohobeaaDoor
open Go.RowKit Go.Maps Go.Shelf
set_option linter.unusedVariables false
set_option linter.unusedSimpArgs false

def IBox (w : World) (B : Nat) (x : Int) : Prop := w.heap[B]? = some (.cells #[.int .i64 x] 3 (0, 0))
def OnlyAt (B : Nat) (w w' : World) : Prop := Below B w w' ∧ w'.heap.size = w.heap.size ∧ ∀ j, j ≠ B → w'.heap[j]? = w.heap[j]?
theorem IBox.cell {w : World} {B : Nat} {x : Int} (h : IBox w B x) : w.cell? ⟨B, 0, none⟩ = some (.int .i64 x) := cells_box h 0
set_option maxHeartbeats 2000000 in
set_option maxRecDepth 100000 in
theorem try_any (x k : Int) (best : Nat) (Bk Bb : Nat) (w : World) (hk : IBox w Bk k) (hb : IBox w Bb (best : Int)) (hne : Bk ≠ Bb) (hx : -1000000 ≤ x ∧ x ≤ 1000000) (hkr : -1000000 ≤ k ∧ k ≤ 1000000) :
    Calls Tryd.prog 140 #[.int .i64 x, .pointer (some ⟨Bk, 0, none⟩), .pointer (some ⟨Bb, 0, none⟩)] w fun e w' => e = .returned (.tuple #[]) ∧ OnlyAt Bb w w' ∧ IBox w' Bb (tryS best x k : Int) := by
  have c1 := hk.cell
  have c2 := hb.cell
  have f2 : w.frozen? ⟨Bb, 0, none⟩ = false := frozen_of_row w Bb 0 _ _ hb
  have hbz : Bb < w.heap.size := (Array.getElem?_eq_some_iff.1 hb).1
  have e1 : IntKind.i64.wrap (x - k) = x - k := IntWalk.i64_in _ (by omega)
  have HB := Lib.hid hb
  clear hk hb
  by_cases h1 : 0 ≤ x
  · by_cases h2 : k ≤ x
    · have hs : tryS best x k = min best x.toNat := by unfold tryS; rw [if_pos ⟨h1, by omega⟩]
      have hmin : min (best : Int) x = ((min best x.toNat : Nat) : Int) := by omega
      have d2 : 0 ≤ x - k := by omega
      rw [hs]
      clear hs
      go_enter Tryd.func140, Tryd.ntmps140
      go_wp2_with fail
      go_end0
      exact ⟨rfl, ⟨Below.setCell (Below.refl Bb w) (p := ⟨Bb, 0, none⟩) (Nat.le_refl Bb) _, by simp [World.setCell], fun j hj => Below.heap_setCell _ _ _ _ hj⟩, one_setCell HB.out⟩
    · have hs : tryS best x k = best := by unfold tryS; rw [if_neg (by omega)]
      have d2 : ¬ 0 ≤ x - k := by omega
      rw [hs]
      clear hs
      go_enter Tryd.func140, Tryd.ntmps140
      go_wp2_with fail
      go_end0
      exact ⟨rfl, ⟨Below.refl _ _, rfl, fun _ _ => rfl⟩, HB.out⟩
  · have hs : tryS best x k = best := by unfold tryS; rw [if_neg (by omega)]
    rw [hs]
    clear hs
    go_enter Tryd.func140, Tryd.ntmps140
    go_wp2_with fail
    go_end0
    exact ⟨rfl, ⟨Below.refl _ _, rfl, fun _ _ => rfl⟩, HB.out⟩
end Go.Proofs.YtfjmbcljohobeaaDoor
namespace Go.Proofs.YtfjmbcljohobeaaDoor
open Go.RowKit Go.Maps Go.Shelf
set_option linter.unusedVariables false
set_option linter.unusedSimpArgs false

theorem i32Info : (Tryd.prog.info? 21).map (fun i => (i.zero, i.size, i.bytes)) = some (some (.int .i32 0), 1, 4) := by kernel_rfl
theorem slideS_le (a b : List Int) : ∀ (i : Nat) (k : Int), slideS a b i k ≤ i
  | 0, _ => Nat.le_refl _
  | i + 1, k => by
    unfold slideS
    split
    · have := slideS_le a b i k; omega
    · exact Nat.le_refl _
theorem try_le' (best : Nat) (i k : Int) : tryS best i k ≤ best := try_le best i k
theorem best2_never (a b : List Int) (d : Nat) (l : List Nat) (t : Nat) : best2 a b d l t ≤ never := by
  refine Nat.le_trans (best2_le1 _ _) ?_
  unfold best1
  split
  · exact try_le _ _ _
  · exact Nat.le_refl _
theorem lst_never {a b : List Int} (hn : a.length < never) : ∀ d, ∀ x ∈ lst a b d, x ≤ never
  | 0, x, h => by
    rw [List.mem_singleton.1 h]
    have := slideS_le a b a.length ((a.length : Int) - b.length)
    omega
  | d + 1, x, h => by
    obtain ⟨t, _, rfl⟩ := List.mem_map.1 h
    unfold nextAt
    split
    · have := slideS_le a b (best2 a b (d + 1) (lst a b d) t) (dg a b (d + 1) t)
      have := best2_never a b (d + 1) (lst a b d) t
      omega
    · exact Nat.le_refl _
theorem lst_next {a b : List Int} {e d : Nat} {l : List Nat} (hd : d = e + 1) (hl : lst a b e = l) : lst a b d = (List.range (d + 1)).map (nextAt a b d l) := by
  subst hd hl
  rfl
theorem own_kept {w w' : World} {base : Nat} {e : TypeId} {sz : Nat} {v : Value} {n : Nat} {xs : List Value} (h : w.ownsRow base e sz v n xs) (hb : Below w.heap.size w w') : w'.ownsRow base e sz v n xs := by
  refine ⟨h.1, ?_⟩
  rcases h.2 with h0 | ⟨g, cap, cur, hv, hbg, hg, hle, hm, hcs, ht⟩
  · exact .inl h0
  · exact .inr ⟨g, cap, cur, hv, hbg, by rw [hb.block g (Array.getElem?_eq_some_iff.1 hg).1]; exact hg, hle, hm, hcs, ht⟩
theorem own_only {B : Nat} {w w' : World} {base n size c g : Nat} {e : TypeId} {xs : List Value} (h : OnlyAt B w w') (ho : w.ownsRow base e size (.slice (some ⟨g, 0, none⟩) n c) n xs) (hne : g ≠ B) : w'.ownsRow base e size (.slice (some ⟨g, 0, none⟩) n c) n xs := by
  obtain ⟨h1, h2⟩ := ho
  refine ⟨h1, ?_⟩
  rcases h2 with h2 | ⟨g', cap, cur, hv, hg, hh, r⟩
  · exact .inl h2
  · injection hv with e1 _ e3
    injection e1 with e1
    injection e1 with e1
    subst e1
    exact .inr ⟨g, cap, cur, by rw [e3], hg, by rw [h.2.2 g hne]; exact hh, r⟩
theorem XS_get {l : List Value} {i : Nat} (h : i < l.length) {v : Value} : (l.set i v)[i]? = some v := by simp [h]
theorem fill_next (f : Nat → Nat) (i n : Nat) (h : i < n) (v : Value) (hv : v = .int .i32 (f i : Int)) (z : Value) : (natV ((List.range i).map f) ++ List.replicate (n - i) z).set i v = natV ((List.range (i + 1)).map f) ++ List.replicate (n - (i + 1)) z := by
  have hl : (natV ((List.range i).map f)).length = i := by simp [natV]
  rw [List.set_append_right _ _ (by omega), hl, Nat.sub_self, show n - i = (n - (i + 1)) + 1 by omega, List.replicate_succ, List.set_cons_zero, List.range_succ, List.map_append, hv]
  simp [natV]
set_option maxHeartbeats 8000000 in
set_option maxRecDepth 100000 in
theorem next_any (a b : List Int) (B : Nat) (A A' Al : Option Addr) (ca cb cl : Nat) (e : Nat) (w : World) (hB : B < w.heap.size) (cA : w.cell? ⟨B, 0, none⟩ = some (.slice A a.length ca)) (cB : w.cell? ⟨B, 1, none⟩ = some (.slice A' b.length cb))
    (hsa : Sl w w.heap.size A a.length 1 (i32V a)) (hsb : Sl w w.heap.size A' b.length 1 (i32V b)) (hsl : Sl w w.heap.size Al (e + 1) 1 (natV (lst a b e))) (hn : a.length ≤ 100000) (hm : b.length ≤ 100000) (he : e ≤ 300000) :
    Calls Tryd.prog 108 #[.pointer (some ⟨B, 0, none⟩), .int .i64 ((e + 1 : Nat) : Int), .slice Al (e + 1) cl] w fun r w' => Below w.heap.size w w' ∧ ∃ g c, r = .returned (.slice (some ⟨g, 0, none⟩) (e + 2) c) ∧
      w'.ownsRow w.heap.size 21 1 (.slice (some ⟨g, 0, none⟩) (e + 2) c) (e + 2) (natV (lst a b (e + 1))) := by
  have HSA := Lib.hid hsa; have HSB := Lib.hid hsb; have HSL := Lib.hid hsl; have HCA := Lib.hid cA; have HCB := Lib.hid cB
  have hld : (lst a b e).length = e + 1 := lst_length a b e
  have HLN := Lib.hid (lst_never (a := a) (b := b) (by unfold never; omega) e)
  clear hsa hsb hsl cA cB
  obtain ⟨l, hl⟩ : ∃ l, lst a b e = l := ⟨_, rfl⟩
  rw [hl] at hld
  have HL := Lib.hid hl
  obtain ⟨d, hd⟩ : ∃ d, d = e + 1 := ⟨_, rfl⟩
  have hd1 : 1 ≤ d := by omega
  have hdz : ((d : Int) == 0) = false := by rw [beq_eq_false_iff_ne]; omega
  have HD := Lib.hid hd
  rw [← hd] at hld HSL ⊢
  rw [hl] at HSL HLN
  rw [show e + 2 = d + 1 by omega]
  have hdb : d ≤ 300001 := by omega
  obtain ⟨bl, ol, rfl, hbl, hcl⟩ := HSL.out.2 (by omega)
  have HCL := Lib.hid hcl
  clear hl hd hcl
  go_enter Tryd.func108, Tryd.ntmps108
  have ed : IntKind.i64.wrap ((d : Int) + 1) = ((d + 1 : Nat) : Int) := by rw [IntWalk.i64_in _ (by omega)]; omega
  obtain ⟨im, hmi, hm0, hm1, hm2⟩ := info_parts i32Info
  go_wp2_with (refine wpList_make_full w rfl _ _ 100 rfl w.heap.size 21 im (.int .i32 0) 1 Tryd.underlying100 hmi hm0 hm1 .i64 .i64 _ _ (d + 1) rfl rfl (by omega) (by omega) (by rw [hm2]; omega) (by unfold maxLen; omega) (Nat.le_refl _) ?_; intro w1 hown1 hg1)
  have hb1 : Below w.heap.size w w1 := (Below.refl _ _).grown hg1 (Nat.le_refl _) (fun k e => by cases e)
  have hini : (madeCells (Value.int IntKind.i32 0).cells ((d + 1) * 1)).toList = natV ((List.range 0).map (nextAt a b d l)) ++ List.replicate (d + 1 - 0) (.int .i32 0) := by
    rw [Nat.mul_one]
    exact toList_madeCells_one _ _
  rw [hini] at hown1
  have hgz : w.heap.size < w1.heap.size := (hown1.lt _ rfl).2
  have HO1 := Lib.hid hown1; have HB1 := Lib.hid hb1
  clear hini hown1 hg1 hb1
  go_loopw [38] (fun t wr => ∃ i : Nat, i ≤ d + 1 ∧ t = .int .i64 i ∧ Below w.heap.size w wr ∧ Hid (wr.ownsRow w.heap.size 21 1 (.slice (some ⟨w.heap.size, 0, none⟩) (d + 1) (d + 1)) (d + 1) (natV ((List.range i).map (nextAt a b d l)) ++ List.replicate (d + 1 - i) (.int .i32 0)))) (fun t _ => d + 1 - (intOf t).toNat)
  case atStart => exact ⟨0, by omega, rfl, HB1.out, HO1⟩
  case round =>
    obtain ⟨i, hi, rfl, hbr, hO⟩ := hrel
    by_cases hlt : i < d + 1
    · have hbs := hbr.size
      have hdg := diag_any B A A' a.length b.length ca cb d i wr (Nat.lt_of_lt_of_le hB hbs) ((hbr.cell (p := ⟨B, 0, none⟩) hB).trans HCA.out) ((hbr.cell (p := ⟨B, 1, none⟩) hB).trans HCB.out) hn hm (by omega) (by omega)
      obtain ⟨k, hk⟩ : ∃ k : Int, (a.length : Int) - b.length - d + 2 * (i : Int) = k := ⟨_, rfl⟩
      rw [hk] at hdg
      have HK : Hid (dg a b d i = k) := hk
      have i1 : (i : Int) < (d : Int) + 1 := by omega
      clear hk
      go_upto_region 8 with (go_at_call 109; refine hdg.mono ?_; rintro r w2 ⟨rfl, hg2⟩)
      obtain ⟨z, hz⟩ : ∃ z, w2.heap.size = z := ⟨_, rfl⟩
      obtain ⟨W3, hW3⟩ : ∃ W3, (w2.alloc (.cells #[.int .i64 k] 3)).alloc (.cells #[.int .i64 2147483647] 3) = W3 := ⟨_, rfl⟩
      have K3 : Hid (IBox W3 z k) := by rw [← hW3, ← hz]; exact heap_alloc2_old _ _ _
      have B3 : Hid (IBox W3 (z + 1) ((never : Nat) : Int)) := by rw [← hW3, ← hz]; exact heap_alloc2_new _ _ _
      have hb23 : Below w2.heap.size w2 W3 := by rw [← hW3]; exact ((Below.refl _ _).alloc (Nat.le_refl _) _).alloc (by simp) _
      have hb2 : Below w.heap.size w w2 := hbr.trans (hg2.below.mono hbs)
      have E3 : Hid (Below w.heap.size w W3) := hb2.trans (hb23.mono hb2.size)
      have HZ : Hid (w.heap.size < z) := by
        have h1 := (hO.out.lt _ rfl).2
        have h2 := hg2.below.size
        rw [← hz]
        exact Nat.lt_of_lt_of_le h1 h2
      obtain ⟨XS, hXS⟩ : ∃ XS, natV ((List.range i).map (nextAt a b d l)) ++ List.replicate (d + 1 - i) (Value.int .i32 0) = XS := ⟨_, rfl⟩
      have O3 : Hid (W3.ownsRow w.heap.size 21 1 (.slice (some ⟨w.heap.size, 0, none⟩) (d + 1) (d + 1)) (d + 1) XS) := by
        rw [← hXS]
        exact own_kept (own_kept hO.out hg2.below) hb23
      have hxsl : XS.length = d + 1 := by rw [← hXS]; simp [natV]; omega
      have HXL : Hid (i < XS.length) := by rw [hxsl]; exact hlt
      have hxi : XS[i]? = some (.int .i32 0) := by
        have hl0 : (natV ((List.range i).map (nextAt a b d l))).length = i := by simp [natV]
        rw [← hXS, List.getElem?_append_right (by omega), hl0, Nat.sub_self, List.getElem?_replicate, if_pos (by omega)]
      have HXI := Lib.hid hxi
      have HFILL : Hid (∀ v : Value, v = .int .i32 (nextAt a b d l i : Int) → XS.set i v = natV ((List.range (i + 1)).map (nextAt a b d l)) ++ List.replicate (d + 1 - (i + 1)) (Value.int .i32 0)) := fun v hv => by
        rw [← hXS]
        exact fill_next (nextAt a b d l) i (d + 1) hlt v hv _
      have HBR : Hid (best2 a b d l i ≠ never → R a b d (dg a b d i) (best2 a b d l i)) := by
        have h := best2_R (a := a) (b := b) (d := e) (t := i) (by have := HD.out; omega) (lst_sound e)
        rw [HL.out, ← HD.out] at h
        exact h
      have HAH : Hid (∀ j, j < d → ∃ x : Nat, Hid (l.getD j never = x) ∧ x ≤ never ∧ ∀ u : World, Below w.heap.size w u → u.cell? ⟨bl, ol + j, none⟩ = some (.int .i32 (x : Int))) := fun j hj => by
        have hjl : j < l.length := by omega
        refine ⟨l[j], Lib.hid (by rw [List.getD_eq_getElem?_getD, List.getElem?_eq_getElem hjl]; rfl), HLN.out _ (List.getElem_mem hjl), fun u hu => ?_⟩
        exact (hu.cell (p := ⟨bl, ol + j, none⟩) hbl).trans (HCL.out j _ (by simp [natV, hjl]))
      have HXB : Hid (∀ j, j < d → ∀ x : Nat, x ≠ never → Hid (l.getD j never = x) → x ≤ 100000) := fun j hj x hx hl => by
        have h := lst_sound (a := a) (b := b) e j (by have := HD.out; omega) (by rw [HL.out, hl.out]; exact hx)
        have := h.1.2.1
        rw [HL.out, hl.out] at this
        omega
      have hkr : -1000000 ≤ k ∧ k ≤ 1000000 := by
        have h1 : dg a b d i = (a.length : Int) - b.length - d + 2 * i := rfl
        rw [HK.out] at h1
        omega
      rw [hW3, hz]
      clear hxi hW3 hXS hxsl hb23 hb2 hbr hdg hO hz
      by_cases hid : i < d
      · have i2 : (i : Int) < (d : Int) := by omega
        have i3 : decide ((i : Int) < (d : Int)) = true := by rw [decide_eq_true_iff]; exact i2
        have i4 : (0 : Int) ≤ (i : Int) := by omega
        obtain ⟨x, HX, hx, cx0⟩ := HAH.out i hid
        have cx := cx0 W3 E3.out
        by_cases hxn : x = never
        · have hxb : ((x : Int) != 2147483647) = false := by rw [hxn]; rfl
          have HB1 : Hid (best1 a b d l i = never) := Lib.hid (by unfold best1; rw [if_neg (by rw [HX.out]; exact fun h => h.2 hxn)])
          have HB1L : Hid (never ≤ never) := Nat.le_refl _
          clear hxn
          go_upto_region 11 with fail
          clear cx0
          have HB1LE : Hid (never ≤ never) := HB1L.out
          by_cases hi0 : 0 < i
          · have j1 : decide ((0 : Int) < (i : Int)) = true := by rw [decide_eq_true_iff]; omega
            have j2 : (0 : Int) < (i : Int) := by omega
            obtain ⟨y, HY, hy, ct0⟩ := HAH.out (i - 1) (by omega)
            obtain ⟨q, hq⟩ : ∃ q, q = i - 1 := ⟨_, rfl⟩
            have e9 : IntKind.i64.wrap ((i : Int) - 1) = (q : Int) := by rw [IntWalk.i64_in _ (by omega)]; omega
            have q0 : (0 : Int) ≤ (q : Int) := by omega
            have q1 : (q : Int) < (d : Int) := by omega
            have ey : IntKind.i64.wrap (y : Int) = (y : Int) := IntWalk.i64_in _ (by unfold never at hy; omega)
            rw [← hq] at ct0
            have HIQ := Lib.hid hq
            clear hq
            by_cases hyn : y = never
            · have hyb : ((y : Int) != 2147483647) = false := by rw [hyn]; rfl
              have ct := ct0 W3 E3.out
              clear ct0
              go_upto_region 13 with fail
              have cO := (O3.out.cellAt i (by omega)).trans HXI.out
              have fO := O3.out.frozenAt i
              go_upto_region 14 with fail
              obtain ⟨hO6, _⟩ := O3.out.stored i (.int .i32 2147483647)
              have hb6 : Below w.heap.size w (W3.setCell ⟨w.heap.size, i, none⟩ (.int .i32 2147483647)) := E3.out.setCell (Nat.le_refl _) _
              have hB6 : IBox (W3.setCell ⟨w.heap.size, i, none⟩ (.int .i32 2147483647)) (z + 1) (never : Int) := (Below.heap_setCell _ _ _ _ (by have := HZ.out; show z + 1 ≠ w.heap.size; omega)).trans B3.out
              have hK6 : IBox (W3.setCell ⟨w.heap.size, i, none⟩ (.int .i32 2147483647)) z k := (Below.heap_setCell _ _ _ _ (by have := HZ.out; show z ≠ w.heap.size; omega)).trans K3.out
              generalize W3.setCell ⟨w.heap.size, i, none⟩ (.int .i32 2147483647) = W6 at *
              have cb6 := hB6.cell
              have ck6 := hK6.cell
              have HO6 := Lib.hid hO6; have HB6 := Lib.hid hb6
              clear cO fO hO6 hb6 hB6 hK6
              have hbe : best2 a b d l i = never := by unfold best2; rw [if_neg (by rw [HY.out]; exact fun h => h.2 hyn)]; exact HB1.out
              have hbn : never = never := rfl
              have hna : nextAt a b d l i = never := by unfold nextAt; rw [hbe, if_neg (fun h => h hbn)]
              have hbb : (((never : Nat) : Int) != 2147483647) = false := by rw [hbn]; rfl
              have hfill := HFILL.out (.int .i32 2147483647) (by rw [hna]; rfl)
              rw [hfill] at HO6
              clear hna hbe hbn hfill
              go_wp2_with fail
              go_roundw
              case rel => exact ⟨i + 1, by omega, by go_num, HB6.out, HO6⟩
              case measure => simp [intOf]; omega

            · have hyb : ((y : Int) != 2147483647) = true := bne_iff_ne.2 (by unfold never at hyn; omega)
              have hyle : y ≤ 100000 := HXB.out (i - 1) (by omega) y hyn HY
              have ct := ct0 W3 E3.out
              have t2 := try_any (y : Int) k never z (z + 1) W3 K3.out B3.out (by omega) (by omega) hkr
              clear ct0
              go_upto_region 13 with (go_at_call 140; refine t2.mono ?_; rintro r W5 ⟨rfl, hO5, hb5⟩)
              have K5 : Hid (IBox W5 z k) := (hO5.2.2 z (by omega)).trans K3.out
              have B5 : Hid (IBox W5 (z + 1) (tryS never (y : Int) k : Int)) := hb5
              have E5 : Hid (Below w.heap.size w W5) := E3.out.trans (hO5.1.mono (by have := HZ.out; omega))
              have O5 : Hid (W5.ownsRow w.heap.size 21 1 (.slice (some ⟨w.heap.size, 0, none⟩) (d + 1) (d + 1)) (d + 1) XS) := own_only hO5 O3.out (by have := HZ.out; omega)
              obtain ⟨bs, hbs⟩ : ∃ bs, tryS never (y : Int) k = bs := ⟨_, rfl⟩
              rw [hbs] at B5
              have hbsle : bs ≤ never := by rw [← hbs]; exact Nat.le_trans (try_le _ _ _) HB1LE.out
              have cO := (O5.out.cellAt i (by omega)).trans HXI.out
              have fO := O5.out.frozenAt i
              go_upto_region 14 with fail
              obtain ⟨hO6, _⟩ := O5.out.stored i (.int .i32 2147483647)
              have hb6 : Below w.heap.size w (W5.setCell ⟨w.heap.size, i, none⟩ (.int .i32 2147483647)) := E5.out.setCell (Nat.le_refl _) _
              have hB6 : IBox (W5.setCell ⟨w.heap.size, i, none⟩ (.int .i32 2147483647)) (z + 1) (bs : Int) := (Below.heap_setCell _ _ _ _ (by have := HZ.out; show z + 1 ≠ w.heap.size; omega)).trans B5.out
              have hK6 : IBox (W5.setCell ⟨w.heap.size, i, none⟩ (.int .i32 2147483647)) z k := (Below.heap_setCell _ _ _ _ (by have := HZ.out; show z ≠ w.heap.size; omega)).trans K5.out
              generalize W5.setCell ⟨w.heap.size, i, none⟩ (.int .i32 2147483647) = W6 at *
              have cb6 := hB6.cell
              have ck6 := hK6.cell
              have HO6 := Lib.hid hO6; have HB6 := Lib.hid hb6
              clear cO fO hO6 hb6 hB6 hK6
              have hbe : best2 a b d l i = bs := by unfold best2; rw [if_pos ⟨hi0, by rw [HY.out]; exact hyn⟩, HY.out, HK.out, HB1.out]; exact hbs
              by_cases hbn : bs = never
              · have hna : nextAt a b d l i = never := by unfold nextAt; rw [hbe, if_neg (fun h => h hbn)]
                have hbb : (((bs : Nat) : Int) != 2147483647) = false := by rw [hbn]; rfl
                have hfill := HFILL.out (.int .i32 2147483647) (by rw [hna]; rfl)
                rw [hfill] at HO6
                clear hna hbe hbn hfill
                go_wp2_with fail
                go_roundw
                case rel => exact ⟨i + 1, by omega, by go_num, HB6.out, HO6⟩
                case measure => simp [intOf]; omega
              · have hR := HBR.out (by rw [hbe]; exact hbn)
                rw [hbe, HK.out] at hR
                obtain ⟨⟨o1, o2, o3⟩, _⟩ := hR
                have hna : nextAt a b d l i = slideS a b bs k := by unfold nextAt; rw [hbe, if_pos hbn, HK.out]
                have hbb : (((bs : Nat) : Int) != 2147483647) = true := bne_iff_ne.2 (by unfold never at hbn; omega)
                have hs6 := HB6.out.size
                have hsl := slide_any a b B A A' ca cb bs k W6 (Nat.lt_of_lt_of_le hB hs6) ((HB6.out.cell (p := ⟨B, 0, none⟩) hB).trans HCA.out) ((HB6.out.cell (p := ⟨B, 1, none⟩) hB).trans HCB.out) ((HSA.out.keep HB6.out).more hs6) ((HSB.out.keep HB6.out).more hs6) hn hm o2 o3 hkr
                have HFI := Lib.hid (HFILL.out (.int .i32 (slideS a b bs k : Int)) (by rw [hna]))
                clear hna hbe hbn o1 o2 o3
                go_upto_region 15 with fail
                go_upto_region 16 with (go_at_call 139; refine hsl.mono ?_; rintro r w7 ⟨rfl, hg7⟩
                                        have O7 := own_kept HO6.out hg7.below
                                        have cO7 := (O7.cellAt i (by omega)).trans (XS_get HXL.out)
                                        have fO7 := O7.frozenAt i
                                        have HO7 := Lib.hid O7; have HB7 := Lib.hid (HB6.out.trans (hg7.below.mono HB6.out.size)))
                obtain ⟨hO8, _⟩ := HO7.out.stored i (.int .i32 (slideS a b bs k : Int))
                have hb8 : Below w.heap.size w (w7.setCell ⟨w.heap.size, i, none⟩ (.int .i32 (slideS a b bs k : Int))) := HB7.out.setCell (Nat.le_refl _) _
                rw [List.set_set, HFI.out] at hO8
                go_wp2_with fail
                go_roundw
                case rel => exact ⟨i + 1, by omega, by go_num, hb8, Lib.hid hO8⟩
                case measure => simp [intOf]; omega

          · have j1 : decide ((0 : Int) < (i : Int)) = false := by rw [decide_eq_false_iff_not]; omega
            have j2 : ¬ (0 : Int) < (i : Int) := by omega
            go_upto_region 13 with fail
            have cO := (O3.out.cellAt i (by omega)).trans HXI.out
            have fO := O3.out.frozenAt i
            go_upto_region 14 with fail
            obtain ⟨hO6, _⟩ := O3.out.stored i (.int .i32 2147483647)
            have hb6 : Below w.heap.size w (W3.setCell ⟨w.heap.size, i, none⟩ (.int .i32 2147483647)) := E3.out.setCell (Nat.le_refl _) _
            have hB6 : IBox (W3.setCell ⟨w.heap.size, i, none⟩ (.int .i32 2147483647)) (z + 1) (never : Int) := (Below.heap_setCell _ _ _ _ (by have := HZ.out; show z + 1 ≠ w.heap.size; omega)).trans B3.out
            have hK6 : IBox (W3.setCell ⟨w.heap.size, i, none⟩ (.int .i32 2147483647)) z k := (Below.heap_setCell _ _ _ _ (by have := HZ.out; show z ≠ w.heap.size; omega)).trans K3.out
            generalize W3.setCell ⟨w.heap.size, i, none⟩ (.int .i32 2147483647) = W6 at *
            have cb6 := hB6.cell
            have ck6 := hK6.cell
            have HO6 := Lib.hid hO6; have HB6 := Lib.hid hb6
            clear cO fO hO6 hb6 hB6 hK6
            have hbe : best2 a b d l i = never := by unfold best2; rw [if_neg (fun h => hi0 h.1)]; exact HB1.out
            have hbn : never = never := rfl
            have hna : nextAt a b d l i = never := by unfold nextAt; rw [hbe, if_neg (fun h => h hbn)]
            have hbb : (((never : Nat) : Int) != 2147483647) = false := by rw [hbn]; rfl
            have hfill := HFILL.out (.int .i32 2147483647) (by rw [hna]; rfl)
            rw [hfill] at HO6
            clear hna hbe hbn hfill
            go_wp2_with fail
            go_roundw
            case rel => exact ⟨i + 1, by omega, by go_num, HB6.out, HO6⟩
            case measure => simp [intOf]; omega


        · have hxb : ((x : Int) != 2147483647) = true := bne_iff_ne.2 (by unfold never at hxn; omega)
          have ex : IntKind.i64.wrap (x : Int) = (x : Int) := IntWalk.i64_in _ (by unfold never at hx; omega)
          have ex1 : IntKind.i64.wrap ((x : Int) - 1) = (x : Int) - 1 := IntWalk.i64_in _ (by unfold never at hx; omega)
          have hxle : x ≤ 100000 := HXB.out i hid x hxn HX
          have t1 := try_any ((x : Int) - 1) k never z (z + 1) W3 K3.out B3.out (by omega) (by omega) hkr
          obtain ⟨b1, hb1⟩ : ∃ b1, tryS never ((x : Int) - 1) k = b1 := ⟨_, rfl⟩
          rw [hb1] at t1
          have HB1 : Hid (best1 a b d l i = b1) := Lib.hid (by unfold best1; rw [if_pos ⟨hid, by rw [HX.out]; exact hxn⟩, HX.out, HK.out]; exact hb1)
          have HB1L : Hid (b1 ≤ never) := by rw [← hb1]; exact try_le _ _ _
          clear hb1
          go_upto_region 11 with (go_at_call 140; refine t1.mono ?_; rintro r W4 ⟨rfl, hO4, hb4⟩)
          have K4 : Hid (IBox W4 z k) := (hO4.2.2 z (by omega)).trans K3.out
          have B4 : Hid (IBox W4 (z + 1) (b1 : Int)) := hb4
          have E4 : Hid (Below w.heap.size w W4) := E3.out.trans (hO4.1.mono (by have := HZ.out; omega))
          have O4 : Hid (W4.ownsRow w.heap.size 21 1 (.slice (some ⟨w.heap.size, 0, none⟩) (d + 1) (d + 1)) (d + 1) XS) := own_only hO4 O3.out (by have := HZ.out; omega)

          clear cx cx0 t1 hO4 hb4
          have HB1LE : Hid (b1 ≤ never) := HB1L.out
          by_cases hi0 : 0 < i
          · have j1 : decide ((0 : Int) < (i : Int)) = true := by rw [decide_eq_true_iff]; omega
            have j2 : (0 : Int) < (i : Int) := by omega
            obtain ⟨y, HY, hy, ct0⟩ := HAH.out (i - 1) (by omega)
            obtain ⟨q, hq⟩ : ∃ q, q = i - 1 := ⟨_, rfl⟩
            have e9 : IntKind.i64.wrap ((i : Int) - 1) = (q : Int) := by rw [IntWalk.i64_in _ (by omega)]; omega
            have q0 : (0 : Int) ≤ (q : Int) := by omega
            have q1 : (q : Int) < (d : Int) := by omega
            have ey : IntKind.i64.wrap (y : Int) = (y : Int) := IntWalk.i64_in _ (by unfold never at hy; omega)
            rw [← hq] at ct0
            have HIQ := Lib.hid hq
            clear hq
            by_cases hyn : y = never
            · have hyb : ((y : Int) != 2147483647) = false := by rw [hyn]; rfl
              have ct := ct0 W4 E4.out
              clear ct0
              go_upto_region 13 with fail
              have cO := (O4.out.cellAt i (by omega)).trans HXI.out
              have fO := O4.out.frozenAt i
              go_upto_region 14 with fail
              obtain ⟨hO6, _⟩ := O4.out.stored i (.int .i32 2147483647)
              have hb6 : Below w.heap.size w (W4.setCell ⟨w.heap.size, i, none⟩ (.int .i32 2147483647)) := E4.out.setCell (Nat.le_refl _) _
              have hB6 : IBox (W4.setCell ⟨w.heap.size, i, none⟩ (.int .i32 2147483647)) (z + 1) (b1 : Int) := (Below.heap_setCell _ _ _ _ (by have := HZ.out; show z + 1 ≠ w.heap.size; omega)).trans B4.out
              have hK6 : IBox (W4.setCell ⟨w.heap.size, i, none⟩ (.int .i32 2147483647)) z k := (Below.heap_setCell _ _ _ _ (by have := HZ.out; show z ≠ w.heap.size; omega)).trans K4.out
              generalize W4.setCell ⟨w.heap.size, i, none⟩ (.int .i32 2147483647) = W6 at *
              have cb6 := hB6.cell
              have ck6 := hK6.cell
              have HO6 := Lib.hid hO6; have HB6 := Lib.hid hb6
              clear cO fO hO6 hb6 hB6 hK6
              have hbe : best2 a b d l i = b1 := by unfold best2; rw [if_neg (by rw [HY.out]; exact fun h => h.2 hyn)]; exact HB1.out
              by_cases hbn : b1 = never
              · have hna : nextAt a b d l i = never := by unfold nextAt; rw [hbe, if_neg (fun h => h hbn)]
                have hbb : (((b1 : Nat) : Int) != 2147483647) = false := by rw [hbn]; rfl
                have hfill := HFILL.out (.int .i32 2147483647) (by rw [hna]; rfl)
                rw [hfill] at HO6
                clear hna hbe hbn hfill
                go_wp2_with fail
                go_roundw
                case rel => exact ⟨i + 1, by omega, by go_num, HB6.out, HO6⟩
                case measure => simp [intOf]; omega
              · have hR := HBR.out (by rw [hbe]; exact hbn)
                rw [hbe, HK.out] at hR
                obtain ⟨⟨o1, o2, o3⟩, _⟩ := hR
                have hna : nextAt a b d l i = slideS a b b1 k := by unfold nextAt; rw [hbe, if_pos hbn, HK.out]
                have hbb : (((b1 : Nat) : Int) != 2147483647) = true := bne_iff_ne.2 (by unfold never at hbn; omega)
                have hs6 := HB6.out.size
                have hsl := slide_any a b B A A' ca cb b1 k W6 (Nat.lt_of_lt_of_le hB hs6) ((HB6.out.cell (p := ⟨B, 0, none⟩) hB).trans HCA.out) ((HB6.out.cell (p := ⟨B, 1, none⟩) hB).trans HCB.out) ((HSA.out.keep HB6.out).more hs6) ((HSB.out.keep HB6.out).more hs6) hn hm o2 o3 hkr
                have HFI := Lib.hid (HFILL.out (.int .i32 (slideS a b b1 k : Int)) (by rw [hna]))
                clear hna hbe hbn o1 o2 o3
                go_upto_region 15 with fail
                go_upto_region 16 with (go_at_call 139; refine hsl.mono ?_; rintro r w7 ⟨rfl, hg7⟩
                                        have O7 := own_kept HO6.out hg7.below
                                        have cO7 := (O7.cellAt i (by omega)).trans (XS_get HXL.out)
                                        have fO7 := O7.frozenAt i
                                        have HO7 := Lib.hid O7; have HB7 := Lib.hid (HB6.out.trans (hg7.below.mono HB6.out.size)))
                obtain ⟨hO8, _⟩ := HO7.out.stored i (.int .i32 (slideS a b b1 k : Int))
                have hb8 : Below w.heap.size w (w7.setCell ⟨w.heap.size, i, none⟩ (.int .i32 (slideS a b b1 k : Int))) := HB7.out.setCell (Nat.le_refl _) _
                rw [List.set_set, HFI.out] at hO8
                go_wp2_with fail
                go_roundw
                case rel => exact ⟨i + 1, by omega, by go_num, hb8, Lib.hid hO8⟩
                case measure => simp [intOf]; omega

            · have hyb : ((y : Int) != 2147483647) = true := bne_iff_ne.2 (by unfold never at hyn; omega)
              have hyle : y ≤ 100000 := HXB.out (i - 1) (by omega) y hyn HY
              have ct := ct0 W4 E4.out
              have t2 := try_any (y : Int) k b1 z (z + 1) W4 K4.out B4.out (by omega) (by omega) hkr
              clear ct0
              go_upto_region 13 with (go_at_call 140; refine t2.mono ?_; rintro r W5 ⟨rfl, hO5, hb5⟩)
              have K5 : Hid (IBox W5 z k) := (hO5.2.2 z (by omega)).trans K4.out
              have B5 : Hid (IBox W5 (z + 1) (tryS b1 (y : Int) k : Int)) := hb5
              have E5 : Hid (Below w.heap.size w W5) := E4.out.trans (hO5.1.mono (by have := HZ.out; omega))
              have O5 : Hid (W5.ownsRow w.heap.size 21 1 (.slice (some ⟨w.heap.size, 0, none⟩) (d + 1) (d + 1)) (d + 1) XS) := own_only hO5 O4.out (by have := HZ.out; omega)
              obtain ⟨bs, hbs⟩ : ∃ bs, tryS b1 (y : Int) k = bs := ⟨_, rfl⟩
              rw [hbs] at B5
              have hbsle : bs ≤ never := by rw [← hbs]; exact Nat.le_trans (try_le _ _ _) HB1LE.out
              have cO := (O5.out.cellAt i (by omega)).trans HXI.out
              have fO := O5.out.frozenAt i
              go_upto_region 14 with fail
              obtain ⟨hO6, _⟩ := O5.out.stored i (.int .i32 2147483647)
              have hb6 : Below w.heap.size w (W5.setCell ⟨w.heap.size, i, none⟩ (.int .i32 2147483647)) := E5.out.setCell (Nat.le_refl _) _
              have hB6 : IBox (W5.setCell ⟨w.heap.size, i, none⟩ (.int .i32 2147483647)) (z + 1) (bs : Int) := (Below.heap_setCell _ _ _ _ (by have := HZ.out; show z + 1 ≠ w.heap.size; omega)).trans B5.out
              have hK6 : IBox (W5.setCell ⟨w.heap.size, i, none⟩ (.int .i32 2147483647)) z k := (Below.heap_setCell _ _ _ _ (by have := HZ.out; show z ≠ w.heap.size; omega)).trans K5.out
              generalize W5.setCell ⟨w.heap.size, i, none⟩ (.int .i32 2147483647) = W6 at *
              have cb6 := hB6.cell
              have ck6 := hK6.cell
              have HO6 := Lib.hid hO6; have HB6 := Lib.hid hb6
              clear cO fO hO6 hb6 hB6 hK6
              have hbe : best2 a b d l i = bs := by unfold best2; rw [if_pos ⟨hi0, by rw [HY.out]; exact hyn⟩, HY.out, HK.out, HB1.out]; exact hbs
              by_cases hbn : bs = never
              · have hna : nextAt a b d l i = never := by unfold nextAt; rw [hbe, if_neg (fun h => h hbn)]
                have hbb : (((bs : Nat) : Int) != 2147483647) = false := by rw [hbn]; rfl
                have hfill := HFILL.out (.int .i32 2147483647) (by rw [hna]; rfl)
                rw [hfill] at HO6
                clear hna hbe hbn hfill
                go_wp2_with fail
                go_roundw
                case rel => exact ⟨i + 1, by omega, by go_num, HB6.out, HO6⟩
                case measure => simp [intOf]; omega
              · have hR := HBR.out (by rw [hbe]; exact hbn)
                rw [hbe, HK.out] at hR
                obtain ⟨⟨o1, o2, o3⟩, _⟩ := hR
                have hna : nextAt a b d l i = slideS a b bs k := by unfold nextAt; rw [hbe, if_pos hbn, HK.out]
                have hbb : (((bs : Nat) : Int) != 2147483647) = true := bne_iff_ne.2 (by unfold never at hbn; omega)
                have hs6 := HB6.out.size
                have hsl := slide_any a b B A A' ca cb bs k W6 (Nat.lt_of_lt_of_le hB hs6) ((HB6.out.cell (p := ⟨B, 0, none⟩) hB).trans HCA.out) ((HB6.out.cell (p := ⟨B, 1, none⟩) hB).trans HCB.out) ((HSA.out.keep HB6.out).more hs6) ((HSB.out.keep HB6.out).more hs6) hn hm o2 o3 hkr
                have HFI := Lib.hid (HFILL.out (.int .i32 (slideS a b bs k : Int)) (by rw [hna]))
                clear hna hbe hbn o1 o2 o3
                go_upto_region 15 with fail
                go_upto_region 16 with (go_at_call 139; refine hsl.mono ?_; rintro r w7 ⟨rfl, hg7⟩
                                        have O7 := own_kept HO6.out hg7.below
                                        have cO7 := (O7.cellAt i (by omega)).trans (XS_get HXL.out)
                                        have fO7 := O7.frozenAt i
                                        have HO7 := Lib.hid O7; have HB7 := Lib.hid (HB6.out.trans (hg7.below.mono HB6.out.size)))
                obtain ⟨hO8, _⟩ := HO7.out.stored i (.int .i32 (slideS a b bs k : Int))
                have hb8 : Below w.heap.size w (w7.setCell ⟨w.heap.size, i, none⟩ (.int .i32 (slideS a b bs k : Int))) := HB7.out.setCell (Nat.le_refl _) _
                rw [List.set_set, HFI.out] at hO8
                go_wp2_with fail
                go_roundw
                case rel => exact ⟨i + 1, by omega, by go_num, hb8, Lib.hid hO8⟩
                case measure => simp [intOf]; omega

          · have j1 : decide ((0 : Int) < (i : Int)) = false := by rw [decide_eq_false_iff_not]; omega
            have j2 : ¬ (0 : Int) < (i : Int) := by omega
            go_upto_region 13 with fail
            have cO := (O4.out.cellAt i (by omega)).trans HXI.out
            have fO := O4.out.frozenAt i
            go_upto_region 14 with fail
            obtain ⟨hO6, _⟩ := O4.out.stored i (.int .i32 2147483647)
            have hb6 : Below w.heap.size w (W4.setCell ⟨w.heap.size, i, none⟩ (.int .i32 2147483647)) := E4.out.setCell (Nat.le_refl _) _
            have hB6 : IBox (W4.setCell ⟨w.heap.size, i, none⟩ (.int .i32 2147483647)) (z + 1) (b1 : Int) := (Below.heap_setCell _ _ _ _ (by have := HZ.out; show z + 1 ≠ w.heap.size; omega)).trans B4.out
            have hK6 : IBox (W4.setCell ⟨w.heap.size, i, none⟩ (.int .i32 2147483647)) z k := (Below.heap_setCell _ _ _ _ (by have := HZ.out; show z ≠ w.heap.size; omega)).trans K4.out
            generalize W4.setCell ⟨w.heap.size, i, none⟩ (.int .i32 2147483647) = W6 at *
            have cb6 := hB6.cell
            have ck6 := hK6.cell
            have HO6 := Lib.hid hO6; have HB6 := Lib.hid hb6
            clear cO fO hO6 hb6 hB6 hK6
            have hbe : best2 a b d l i = b1 := by unfold best2; rw [if_neg (fun h => hi0 h.1)]; exact HB1.out
            by_cases hbn : b1 = never
            · have hna : nextAt a b d l i = never := by unfold nextAt; rw [hbe, if_neg (fun h => h hbn)]
              have hbb : (((b1 : Nat) : Int) != 2147483647) = false := by rw [hbn]; rfl
              have hfill := HFILL.out (.int .i32 2147483647) (by rw [hna]; rfl)
              rw [hfill] at HO6
              clear hna hbe hbn hfill
              go_wp2_with fail
              go_roundw
              case rel => exact ⟨i + 1, by omega, by go_num, HB6.out, HO6⟩
              case measure => simp [intOf]; omega
            · have hR := HBR.out (by rw [hbe]; exact hbn)
              rw [hbe, HK.out] at hR
              obtain ⟨⟨o1, o2, o3⟩, _⟩ := hR
              have hna : nextAt a b d l i = slideS a b b1 k := by unfold nextAt; rw [hbe, if_pos hbn, HK.out]
              have hbb : (((b1 : Nat) : Int) != 2147483647) = true := bne_iff_ne.2 (by unfold never at hbn; omega)
              have hs6 := HB6.out.size
              have hsl := slide_any a b B A A' ca cb b1 k W6 (Nat.lt_of_lt_of_le hB hs6) ((HB6.out.cell (p := ⟨B, 0, none⟩) hB).trans HCA.out) ((HB6.out.cell (p := ⟨B, 1, none⟩) hB).trans HCB.out) ((HSA.out.keep HB6.out).more hs6) ((HSB.out.keep HB6.out).more hs6) hn hm o2 o3 hkr
              have HFI := Lib.hid (HFILL.out (.int .i32 (slideS a b b1 k : Int)) (by rw [hna]))
              clear hna hbe hbn o1 o2 o3
              go_upto_region 15 with fail
              go_upto_region 16 with (go_at_call 139; refine hsl.mono ?_; rintro r w7 ⟨rfl, hg7⟩
                                      have O7 := own_kept HO6.out hg7.below
                                      have cO7 := (O7.cellAt i (by omega)).trans (XS_get HXL.out)
                                      have fO7 := O7.frozenAt i
                                      have HO7 := Lib.hid O7; have HB7 := Lib.hid (HB6.out.trans (hg7.below.mono HB6.out.size)))
              obtain ⟨hO8, _⟩ := HO7.out.stored i (.int .i32 (slideS a b b1 k : Int))
              have hb8 : Below w.heap.size w (w7.setCell ⟨w.heap.size, i, none⟩ (.int .i32 (slideS a b b1 k : Int))) := HB7.out.setCell (Nat.le_refl _) _
              rw [List.set_set, HFI.out] at hO8
              go_wp2_with fail
              go_roundw
              case rel => exact ⟨i + 1, by omega, by go_num, hb8, Lib.hid hO8⟩
              case measure => simp [intOf]; omega


      · have i2 : ¬ (i : Int) < (d : Int) := by omega
        have i3 : decide ((i : Int) < (d : Int)) = false := by rw [decide_eq_false_iff_not]; exact i2
        have HB1 : Hid (best1 a b d l i = never) := Lib.hid (by unfold best1; rw [if_neg (fun h => hid h.1)])
        have HB1L : Hid (never ≤ never) := Nat.le_refl _
        go_upto_region 11 with fail
        have HB1LE : Hid (never ≤ never) := HB1L.out
        have hi0 : 0 < i := by omega
        have j1 : decide ((0 : Int) < (i : Int)) = true := by rw [decide_eq_true_iff]; omega
        have j2 : (0 : Int) < (i : Int) := by omega
        obtain ⟨y, HY, hy, ct0⟩ := HAH.out (i - 1) (by omega)
        obtain ⟨q, hq⟩ : ∃ q, q = i - 1 := ⟨_, rfl⟩
        have e9 : IntKind.i64.wrap ((i : Int) - 1) = (q : Int) := by rw [IntWalk.i64_in _ (by omega)]; omega
        have q0 : (0 : Int) ≤ (q : Int) := by omega
        have q1 : (q : Int) < (d : Int) := by omega
        have ey : IntKind.i64.wrap (y : Int) = (y : Int) := IntWalk.i64_in _ (by unfold never at hy; omega)
        rw [← hq] at ct0
        have HIQ := Lib.hid hq
        clear hq
        by_cases hyn : y = never
        · have hyb : ((y : Int) != 2147483647) = false := by rw [hyn]; rfl
          have ct := ct0 W3 E3.out
          clear ct0
          go_upto_region 13 with fail
          have cO := (O3.out.cellAt i (by omega)).trans HXI.out
          have fO := O3.out.frozenAt i
          go_upto_region 14 with fail
          obtain ⟨hO6, _⟩ := O3.out.stored i (.int .i32 2147483647)
          have hb6 : Below w.heap.size w (W3.setCell ⟨w.heap.size, i, none⟩ (.int .i32 2147483647)) := E3.out.setCell (Nat.le_refl _) _
          have hB6 : IBox (W3.setCell ⟨w.heap.size, i, none⟩ (.int .i32 2147483647)) (z + 1) (never : Int) := (Below.heap_setCell _ _ _ _ (by have := HZ.out; show z + 1 ≠ w.heap.size; omega)).trans B3.out
          have hK6 : IBox (W3.setCell ⟨w.heap.size, i, none⟩ (.int .i32 2147483647)) z k := (Below.heap_setCell _ _ _ _ (by have := HZ.out; show z ≠ w.heap.size; omega)).trans K3.out
          generalize W3.setCell ⟨w.heap.size, i, none⟩ (.int .i32 2147483647) = W6 at *
          have cb6 := hB6.cell
          have ck6 := hK6.cell
          have HO6 := Lib.hid hO6; have HB6 := Lib.hid hb6
          clear cO fO hO6 hb6 hB6 hK6
          have hbe : best2 a b d l i = never := by unfold best2; rw [if_neg (by rw [HY.out]; exact fun h => h.2 hyn)]; exact HB1.out
          have hbn : never = never := rfl
          have hna : nextAt a b d l i = never := by unfold nextAt; rw [hbe, if_neg (fun h => h hbn)]
          have hbb : (((never : Nat) : Int) != 2147483647) = false := by rw [hbn]; rfl
          have hfill := HFILL.out (.int .i32 2147483647) (by rw [hna]; rfl)
          rw [hfill] at HO6
          clear hna hbe hbn hfill
          go_wp2_with fail
          go_roundw
          case rel => exact ⟨i + 1, by omega, by go_num, HB6.out, HO6⟩
          case measure => simp [intOf]; omega

        · have hyb : ((y : Int) != 2147483647) = true := bne_iff_ne.2 (by unfold never at hyn; omega)
          have hyle : y ≤ 100000 := HXB.out (i - 1) (by omega) y hyn HY
          have ct := ct0 W3 E3.out
          have t2 := try_any (y : Int) k never z (z + 1) W3 K3.out B3.out (by omega) (by omega) hkr
          clear ct0
          go_upto_region 13 with (go_at_call 140; refine t2.mono ?_; rintro r W5 ⟨rfl, hO5, hb5⟩)
          have K5 : Hid (IBox W5 z k) := (hO5.2.2 z (by omega)).trans K3.out
          have B5 : Hid (IBox W5 (z + 1) (tryS never (y : Int) k : Int)) := hb5
          have E5 : Hid (Below w.heap.size w W5) := E3.out.trans (hO5.1.mono (by have := HZ.out; omega))
          have O5 : Hid (W5.ownsRow w.heap.size 21 1 (.slice (some ⟨w.heap.size, 0, none⟩) (d + 1) (d + 1)) (d + 1) XS) := own_only hO5 O3.out (by have := HZ.out; omega)
          obtain ⟨bs, hbs⟩ : ∃ bs, tryS never (y : Int) k = bs := ⟨_, rfl⟩
          rw [hbs] at B5
          have hbsle : bs ≤ never := by rw [← hbs]; exact Nat.le_trans (try_le _ _ _) HB1LE.out
          have cO := (O5.out.cellAt i (by omega)).trans HXI.out
          have fO := O5.out.frozenAt i
          go_upto_region 14 with fail
          obtain ⟨hO6, _⟩ := O5.out.stored i (.int .i32 2147483647)
          have hb6 : Below w.heap.size w (W5.setCell ⟨w.heap.size, i, none⟩ (.int .i32 2147483647)) := E5.out.setCell (Nat.le_refl _) _
          have hB6 : IBox (W5.setCell ⟨w.heap.size, i, none⟩ (.int .i32 2147483647)) (z + 1) (bs : Int) := (Below.heap_setCell _ _ _ _ (by have := HZ.out; show z + 1 ≠ w.heap.size; omega)).trans B5.out
          have hK6 : IBox (W5.setCell ⟨w.heap.size, i, none⟩ (.int .i32 2147483647)) z k := (Below.heap_setCell _ _ _ _ (by have := HZ.out; show z ≠ w.heap.size; omega)).trans K5.out
          generalize W5.setCell ⟨w.heap.size, i, none⟩ (.int .i32 2147483647) = W6 at *
          have cb6 := hB6.cell
          have ck6 := hK6.cell
          have HO6 := Lib.hid hO6; have HB6 := Lib.hid hb6
          clear cO fO hO6 hb6 hB6 hK6
          have hbe : best2 a b d l i = bs := by unfold best2; rw [if_pos ⟨hi0, by rw [HY.out]; exact hyn⟩, HY.out, HK.out, HB1.out]; exact hbs
          by_cases hbn : bs = never
          · have hna : nextAt a b d l i = never := by unfold nextAt; rw [hbe, if_neg (fun h => h hbn)]
            have hbb : (((bs : Nat) : Int) != 2147483647) = false := by rw [hbn]; rfl
            have hfill := HFILL.out (.int .i32 2147483647) (by rw [hna]; rfl)
            rw [hfill] at HO6
            clear hna hbe hbn hfill
            go_wp2_with fail
            go_roundw
            case rel => exact ⟨i + 1, by omega, by go_num, HB6.out, HO6⟩
            case measure => simp [intOf]; omega
          · have hR := HBR.out (by rw [hbe]; exact hbn)
            rw [hbe, HK.out] at hR
            obtain ⟨⟨o1, o2, o3⟩, _⟩ := hR
            have hna : nextAt a b d l i = slideS a b bs k := by unfold nextAt; rw [hbe, if_pos hbn, HK.out]
            have hbb : (((bs : Nat) : Int) != 2147483647) = true := bne_iff_ne.2 (by unfold never at hbn; omega)
            have hs6 := HB6.out.size
            have hsl := slide_any a b B A A' ca cb bs k W6 (Nat.lt_of_lt_of_le hB hs6) ((HB6.out.cell (p := ⟨B, 0, none⟩) hB).trans HCA.out) ((HB6.out.cell (p := ⟨B, 1, none⟩) hB).trans HCB.out) ((HSA.out.keep HB6.out).more hs6) ((HSB.out.keep HB6.out).more hs6) hn hm o2 o3 hkr
            have HFI := Lib.hid (HFILL.out (.int .i32 (slideS a b bs k : Int)) (by rw [hna]))
            clear hna hbe hbn o1 o2 o3
            go_upto_region 15 with fail
            go_upto_region 16 with (go_at_call 139; refine hsl.mono ?_; rintro r w7 ⟨rfl, hg7⟩
                                    have O7 := own_kept HO6.out hg7.below
                                    have cO7 := (O7.cellAt i (by omega)).trans (XS_get HXL.out)
                                    have fO7 := O7.frozenAt i
                                    have HO7 := Lib.hid O7; have HB7 := Lib.hid (HB6.out.trans (hg7.below.mono HB6.out.size)))
            obtain ⟨hO8, _⟩ := HO7.out.stored i (.int .i32 (slideS a b bs k : Int))
            have hb8 : Below w.heap.size w (w7.setCell ⟨w.heap.size, i, none⟩ (.int .i32 (slideS a b bs k : Int))) := HB7.out.setCell (Nat.le_refl _) _
            rw [List.set_set, HFI.out] at hO8
            go_wp2_with fail
            go_roundw
            case rel => exact ⟨i + 1, by omega, by go_num, hb8, Lib.hid hO8⟩
            case measure => simp [intOf]; omega
    · have hie : i = d + 1 := by omega
      rw [hie] at hO
      simp only [Nat.sub_self, List.replicate_zero, List.append_nil] at hO
      have HBQ := Lib.hid hbr
      clear hie hbr
      go_wp2_with fail
      go_ret
      refine ⟨HBQ.out, _, _, rfl, ?_⟩
      have h := hO.out
      have hnx := lst_next (a := a) (b := b) HD.out HL.out
      rw [hnx]
      exact h
end Go.Proofs.YtfjmbcljohobeaaDoor
namespace Go.Proofs.YtfjmbcljohobeaaDoor
open Go.RowKit Go.Maps Go.Shelf
set_option linter.unusedVariables false
set_option linter.unusedSimpArgs false

theorem Gr.ownNew {w w' : World} (h : Gr w w') (base : Nat) (hb : base ≤ w'.heap.size) (v : Value) (e : TypeId) : (w'.alloc (.cells #[v] e)).ownsRow base e 1 (.slice (some ⟨w'.heap.size, 0, none⟩) 1 1) 1 [v] :=
  ⟨by simp, .inr ⟨w'.heap.size, 1, #[v], rfl, hb, heap_alloc_new _ _, Nat.le_refl _, by decide, by simp, by simp⟩⟩
set_option maxHeartbeats 4000000 in
set_option maxRecDepth 100000 in
theorem next0_any (a b : List Int) (B : Nat) (A A' Al : Option Addr) (ca cb cl nl : Nat) (w : World) (hB : B < w.heap.size) (cA : w.cell? ⟨B, 0, none⟩ = some (.slice A a.length ca)) (cB : w.cell? ⟨B, 1, none⟩ = some (.slice A' b.length cb))
    (hsa : Sl w w.heap.size A a.length 1 (i32V a)) (hsb : Sl w w.heap.size A' b.length 1 (i32V b)) (hn : a.length ≤ 100000) (hm : b.length ≤ 100000) :
    Calls Tryd.prog 108 #[.pointer (some ⟨B, 0, none⟩), .int .i64 0, .slice Al nl cl] w fun r w' => Below w.heap.size w w' ∧ ∃ g c, r = .returned (.slice (some ⟨g, 0, none⟩) 1 c) ∧
      w'.ownsRow w.heap.size 21 1 (.slice (some ⟨g, 0, none⟩) 1 c) 1 (natV (lst a b 0)) := by
  have c1 := Wg.cell cA hB
  have c2 := Wg.cell cB hB
  have e1 : IntKind.i64.wrap ((a.length : Int) - (b.length : Int)) = (a.length : Int) - b.length := IntWalk.i64_in _ (by omega)
  have hsl : ∀ u : World, Gr w u → Calls Tryd.prog 139 #[.pointer (some ⟨B, 0, none⟩), .int .i64 (a.length : Int), .int .i64 ((a.length : Int) - b.length)] u fun e w' => e = .returned (.int .i32 (slideS a b a.length ((a.length : Int) - b.length) : Int)) ∧ Gr u w' := fun u hu =>
    slide_any a b B A A' ca cb a.length _ u (Nat.lt_of_lt_of_le hB hu.below.size) ((hu.below.cell (p := ⟨B, 0, none⟩) hB).trans cA) ((hu.below.cell (p := ⟨B, 1, none⟩) hB).trans cB) ((hsa.keep hu.below).more hu.below.size) ((hsb.keep hu.below).more hu.below.size) hn hm (Nat.le_refl _) (by omega) (by omega)
  have HS := Lib.hid hsl
  clear hsl hsa hsb cA cB
  go_enter Tryd.func108, Tryd.ntmps108
  go_upto_region 2 with fail
  refine wp_region_tail_wg 18 (by kernel_rfl) (by kernel_rfl) (by kernel_rfl) (by kernel_rfl) (by kernel_rfl) ?_
  simp only [List.take_succ_cons, List.take_zero, List.drop_succ_cons, List.drop_zero]
  repeat (first
    | go_big_quiet_skip
    | (go_big_quiet_want
       go_big_quiet_op
       first
         | go_big_quiet_on
         | go_big_quiet_call (first | (go_at_call 139; rename_i n; exact (HS.out n.val n.2).mono fun e w'' ⟨he, hw⟩ => ⟨he, ⟨⟨w'', n.2.trans hw⟩, rfl⟩⟩))))
  refine wpQuiet_nil ?_
  rintro w' ⟨kk, rfl⟩
  have hkk := kk.2
  generalize kk.val = w2 at *
  clear c1 c2
  go_wp2_with fail
  go_ret
  refine ⟨hkk.below.alloc hkk.below.size _, _, _, rfl, ?_⟩
  exact hkk.ownNew w.heap.size hkk.below.size _ _
end Go.Proofs.YtfjmbcljohobeaaDoor
namespace Go.Proofs.YtfjmbcljohobeaaDoor
open Go.RowKit Go.Maps
set_option linter.unusedVariables false

/-- Keys of a plain type, as a map's keys. -/
structure KeyEnc (P : Program) (K : TypeId) {κ : Type} (ok : κ → Prop) (val : κ → Value) (kl : κ → Lit) : Prop where
  keyed : Keyed P K
  of : ∀ k, ok k → keyOf P K (val k) = some (kl k)
  inj : ∀ a b, val a = val b → a = b

def Rv (v : Value) : Option (DataW Value × List MemPlace) := some (.held v, [])

/-- A map, and all its keys are such as are meant. -/
def MapK {κ : Type} (ok : κ → Prop) (kl : κ → Lit) (D : DataW Value) : Prop := IsMap D ∧ ∀ l, has D l = true → ∃ k, ok k ∧ l = kl k
/-- Block b is a map of at most n entries that holds just what m says. -/
def MapV (w : World) (P : Program) (K : TypeId) {κ : Type} (ok : κ → Prop) (kl : κ → Lit) (b n : Nat) (m : κ → Option Value) : Prop :=
  ∃ D : DataW Value, w.ownsMap P K Rv b n D ∧ MapK ok kl D ∧ (∀ k, ok k → has D (kl k) = (m k).isSome) ∧ ∀ k v, ok k → m k = some v → ∀ z, D.atKey (kl k) z = .held v

section
variable {P : Program} {K : TypeId} {κ : Type} {ok : κ → Prop} {val : κ → Value} {kl : κ → Lit} {w : World} {b n : Nat} {m : κ → Option Value}

theorem KeyEnc.klInj (E : KeyEnc P K ok val kl) {x y : κ} (hx : ok x) (hy : ok y) (h : kl x = kl y) : x = y :=
  E.inj _ _ (E.keyed.inj (E.of x hx) (by rw [h]; exact E.of y hy))

theorem MapV.made (w : World) (P : Program) (K : TypeId) (ok : κ → Prop) (kl : κ → Lit) : MapV (w.alloc (.map #[] 0)) P K ok kl w.heap.size 0 (fun _ => none) :=
  ⟨.map [], World.ownsMap_made w P K Rv, ⟨isMap_empty, fun l h => by cases h⟩, fun _ _ => rfl, fun _ _ _ h => by cases h⟩
theorem MapV.lt (h : MapV w P K ok kl b n m) : b < w.heap.size := by
  obtain ⟨D, h1, _⟩ := h
  exact h1.lt
theorem MapV.below {w' : World} (h : MapV w P K ok kl b n m) (hb : Below w.heap.size w w') : MapV w' P K ok kl b n m := by
  have hlt := h.lt
  obtain ⟨D, h1, h2⟩ := h
  obtain ⟨es, clock, hbk, F, hs, hD⟩ := h1
  exact ⟨D, ⟨es, clock, (hb.block b hlt).trans hbk, F, hs, hD⟩, h2⟩
theorem MapV.kept {w' : World} {row : Option Nat} (h : MapV w P K ok kl b n m) (hg : w.grownBy w' row) (hne : some b ≠ row) : MapV w' P K ok kl b n m := by
  obtain ⟨D, h1, h2⟩ := h
  exact ⟨D, h1.kept hg hne, h2⟩
theorem MapV.alloc (h : MapV w P K ok kl b n m) (o : Obj) : MapV (w.alloc o) P K ok kl b n m := by
  obtain ⟨D, h1, h2⟩ := h
  exact ⟨D, h1.alloc o, h2⟩
theorem MapV.drew (h : MapV w P K ok kl b n m) : MapV w.drew P K ok kl b n m := by
  obtain ⟨D, h1, h2⟩ := h
  exact ⟨D, h1.drew, h2⟩

theorem put_view {D : DataW Value} (E : KeyEnc P K ok val kl) (hm0 : MapK ok kl D) (h1 : ∀ k, ok k → has D (kl k) = (m k).isSome) (h2 : ∀ k v, ok k → m k = some v → ∀ z, D.atKey (kl k) z = .held v) [DecidableEq κ] {k0 : κ} (hk : ok k0) (v0 : Value) :
    MapK ok kl (D.put (kl k0) (.held v0)) ∧ (∀ k, ok k → has (D.put (kl k0) (.held v0)) (kl k) = (if k = k0 then some v0 else m k).isSome) ∧ ∀ k v, ok k → (if k = k0 then some v0 else m k) = some v → ∀ z, (D.put (kl k0) (.held v0)).atKey (kl k) z = .held v := by
  have hlit := E.keyed.key (E.of k0 hk)
  have hm := hm0.1
  refine ⟨⟨hm.put _ _, fun l hl => ?_⟩, fun k ho => ?_, fun k v ho h z => ?_⟩
  · by_cases e : l = kl k0
    · exact ⟨k0, hk, e⟩
    · rw [has_put_other e] at hl
      exact hm0.2 l hl
  · by_cases e : k = k0
    · subst e
      rw [if_pos rfl, has_put_same hm hlit]; rfl
    · rw [if_neg e, has_put_other (fun he => e (E.klInj ho hk he)), h1 k ho]
  · by_cases e : k = k0
    · subst e
      rw [if_pos rfl] at h
      cases h
      exact atKey_put_same hm hlit _ _
    · rw [if_neg e] at h
      rw [atKey_put_other (fun he => e (E.klInj ho hk he))]
      exact h2 k v ho h z

/-- 'm[k] = v'. -/
theorem wp_mapPut {ops : Array Oper} {rest : List Oper} {o : Oper} {a : Act} {Q : Exit → Act → World → Prop} [DecidableEq κ] (hg : o.guard = none) (mo x v : Operand) (t : TypeId) (hop : o.op = Op.mapUpdate t mo x v)
    (e : TypeId) (E : KeyEnc P K ok val kl) (ht : P.underlying t = some (.map K e)) (hm : a.eval mo = .map (some b)) (hown : MapV w P K ok kl b n m) (hn : n < maxLen) (k0 : κ) (hk : ok k0) (hx : a.eval x = val k0) (v0 : Value) (hv : a.eval v = v0)
    (h : ∀ w', MapV w' P K ok kl b (n + 1) (fun k => if k = k0 then some v0 else m k) → w.grownBy w' (some b) → wpList P ops Q rest (a.put o.dst undef) w') :
    wpList P ops Q (o :: rest) a w := by
  obtain ⟨D, h1, h2, h3, h4⟩ := hown
  refine wpList_mapUpdate_own w hg mo x v t hop K e E.keyed ht Rv b n D hm h1 hn (val k0) v0 (kl k0) hx hv (E.of k0 hk) (.held v0) [] rfl fun w' hw hgr => ?_
  obtain ⟨g1, g2, g3⟩ := put_view E h2 h3 h4 hk v0
  exact h w' ⟨_, hw, g1, g2, g3⟩ hgr
/-- 'v, ok := m[k]'. -/
theorem wp_mapGet2 {ops : Array Oper} {rest : List Oper} {o : Oper} {a : Act} {Q : Exit → Act → World → Prop} (hg : o.guard = none) (mo x : Operand) (t : TypeId) (hop : o.op = Op.lookup t mo x true)
    (e : TypeId) (E : KeyEnc P K ok val kl) (ht : P.underlying t = some (.map K e)) (z : Value) (hz : (zeroValue e).run P w = .ok z w) (hm : a.eval mo = .map (some b)) (hown : MapV w P K ok kl b n m) (k0 : κ) (hk : ok k0) (hx : a.eval x = val k0)
    (h : wpList P ops Q rest (a.put o.dst (.tuple #[(m k0).getD z, .bool (m k0).isSome])) w) :
    wpList P ops Q (o :: rest) a w := by
  obtain ⟨D, h1, h2, h3, h4⟩ := hown
  refine wpList_lookup_own_ok w hg mo x t hop K e E.keyed ht Rv hz (.held z) [] rfl b n D hm h1 (val k0) (kl k0) hx (E.of k0 hk) fun v ps hv => ?_
  rw [h3 k0 hk]
  have hv' : v = (m k0).getD z := by
    have e1 : (DataW.held v : DataW Value) = D.atKey (kl k0) (.held z) := congrArg Prod.fst (Option.some.inj hv)
    rcases hmk : m k0 with _ | u
    · have hh : has D (kl k0) = false := by rw [h3 k0 hk, hmk]; rfl
      rw [atKey_of_not_has hh] at e1
      injection e1
    · rw [h4 k0 u hk hmk] at e1
      injection e1
  rw [hv']; exact h
/-- 'm[k]'. -/
theorem wp_mapGet1 {ops : Array Oper} {rest : List Oper} {o : Oper} {a : Act} {Q : Exit → Act → World → Prop} (hg : o.guard = none) (mo x : Operand) (t : TypeId) (hop : o.op = Op.lookup t mo x false)
    (e : TypeId) (E : KeyEnc P K ok val kl) (ht : P.underlying t = some (.map K e)) (z : Value) (hz : (zeroValue e).run P w = .ok z w) (hm : a.eval mo = .map (some b)) (hown : MapV w P K ok kl b n m) (k0 : κ) (hk : ok k0) (hx : a.eval x = val k0)
    (h : wpList P ops Q rest (a.put o.dst ((m k0).getD z)) w) :
    wpList P ops Q (o :: rest) a w := by
  obtain ⟨D, h1, h2, h3, h4⟩ := hown
  refine wpList_plain hg fun K' hK' => ?_
  obtain ⟨v, ps, hrun, hv⟩ := h1.lookup E.keyed ht hz (zd := .held z) (zp := []) rfl (E.of k0 hk)
  have hv' : v = (m k0).getD z := by
    have e1 : (DataW.held v : DataW Value) = D.atKey (kl k0) (.held z) := congrArg Prod.fst (Option.some.inj hv)
    rcases hmk : m k0 with _ | u
    · have hh : has D (kl k0) = false := by rw [h3 k0 hk, hmk]; rfl
      rw [atKey_of_not_has hh] at e1
      injection e1
    · rw [h4 k0 u hk hmk] at e1
      injection e1
  subst hv'
  unfold Oper.wp
  simp [execOp, hop, hm, hx, hrun, Result.andThen]
  exact hK' _ _ h
end
end Go.Proofs.YtfjmbcljohobeaaDoor
namespace Go.Proofs.YtfjmbcljohobeaaDoor
open Go.RowKit Go.Maps
set_option linter.unusedVariables false

def IntOk (n : Int) : Prop := (Lit.int .i64 n).wf = true
def intK (n : Int) : Value := .int .i64 n
def intL (n : Int) : Lit := .int .i64 n
def StrOk (s : ByteArray) : Prop := s.size ≤ maxLen
def strL (s : ByteArray) : Lit := .string s.data.toList
theorem keyedInt : Keyed Tryd.prog 3 := int_keyed Tryd.underlying3
theorem keyedStr : Keyed Tryd.prog 9 := string_keyed Tryd.underlying9
theorem intEnc : KeyEnc Tryd.prog 3 IntOk intK intL := ⟨keyedInt, fun k hk => by
  unfold IntOk at hk
  simp [keyOf, mapKey, intK, intL, Tryd.underlying3, hk], fun a b h => by injection h⟩
theorem strEnc : KeyEnc Tryd.prog 9 StrOk Value.string strL := ⟨keyedStr, fun k hk => by
  unfold StrOk at hk
  simp [keyOf, mapKey, strL, Tryd.underlying9, hk], fun a b h => by injection h⟩
end Go.Proofs.YtfjmbcljohobeaaDoor
namespace Go.Proofs.YtfjmbcljohobeaaDoor
open Go.RowKit Go.Maps Go.Shelf
set_option linter.unusedVariables false
set_option linter.unusedSimpArgs false

theorem Sl.grown {w w' : World} {A : Option Addr} {n M : Nat} {xs : List Value} (h : Sl w w.heap.size A n 1 xs) (hM : ∃ es c, w.heap[M]? = some (.map es c)) (hg : w.grownBy w' (some M)) : Sl w' w'.heap.size A n 1 xs := by
  refine ⟨h.1, fun hn => ?_⟩
  obtain ⟨b, off, e, hb, hc⟩ := h.2 hn
  have hx : 0 < xs.length := by have := h.1; omega
  have hbM : b ≠ M := by
    rintro rfl
    obtain ⟨es, c, hm⟩ := hM
    have h0 := hc 0 xs[0] (by simp [hx])
    simp [World.cell?, hm] at h0
  have hbk : w'.heap[b]? = w.heap[b]? := hg.block b hb fun q => hbM (Option.some.inj q)
  refine ⟨b, off, e, Nat.lt_of_lt_of_le hb hg.size, fun j u hj => ?_⟩
  have h1 := hc j u hj
  unfold World.cell? at h1 ⊢
  rw [hbk]
  exact h1
theorem next0_any' (a b : List Int) (B : Nat) (A A' Al : Option Addr) (ca cb cl nl : Nat) (d : Nat) (hd : d = 0) (w : World) (hB : B < w.heap.size) (cA : w.cell? ⟨B, 0, none⟩ = some (.slice A a.length ca)) (cB : w.cell? ⟨B, 1, none⟩ = some (.slice A' b.length cb))
    (hsa : Sl w w.heap.size A a.length 1 (i32V a)) (hsb : Sl w w.heap.size A' b.length 1 (i32V b)) (hn : a.length ≤ 100000) (hm : b.length ≤ 100000) :
    Calls Tryd.prog 108 #[.pointer (some ⟨B, 0, none⟩), .int .i64 (d : Int), .slice Al nl cl] w fun r w' => Below w.heap.size w w' ∧ ∃ g c, r = .returned (.slice (some ⟨g, 0, none⟩) (d + 1) c) ∧
      w'.ownsRow w.heap.size 21 1 (.slice (some ⟨g, 0, none⟩) (d + 1) c) (d + 1) (natV (lst a b d)) := by
  subst hd
  have h := next0_any a b B A A' Al ca cb cl nl w hB cA cB hsa hsb hn hm
  first
    | exact h
    | simpa using h
def SavedOk (a b : List Int) (w : World) (mm : Int → Option Value) (j : Nat) : Prop := ∃ g c, mm (j : Int) = some (.slice (some ⟨g, 0, none⟩) (j + 1) c) ∧ Sl w w.heap.size (some ⟨g, 0, none⟩) (j + 1) 1 (natV (lst a b j))
/-- What stands while the search goes on. -/
structure CostAt (a b : List Int) (B M base : Nat) (A A' : Option Addr) (ca cb : Nat) (v3 v4 : Value) (w : World) (d : Nat) (wr : World) : Prop where
  bel : Below base w wr
  box : wr.heap[B]? = some (.cells #[.slice A a.length ca, .slice A' b.length cb, .map (some M), v3, v4] 142 (0, 0))
  map : ∃ nn mm, nn ≤ d ∧ MapV wr Tryd.prog 3 IntOk intL M nn mm ∧ ∀ j, j < d → j % 64 = 0 → SavedOk a b wr mm j
  ra : Sl wr wr.heap.size A a.length 1 (i32V a)
  rb : Sl wr wr.heap.size A' b.length 1 (i32V b)
section
variable {a b : List Int} {B M base d ca cb : Nat} {A A' : Option Addr} {v3 v4 : Value} {w wr w' : World}
theorem CostAt.below (h : CostAt a b B M base A A' ca cb v3 v4 w d wr) (hbs : base ≤ wr.heap.size) (hb : Below wr.heap.size wr w') : CostAt a b B M base A A' ca cb v3 v4 w d w' := by
  obtain ⟨nn, mm, h1, h2, h3⟩ := h.map
  refine ⟨h.bel.trans (hb.mono hbs), (hb.block B (Array.getElem?_eq_some_iff.1 h.box).1).trans h.box, ⟨nn, mm, h1, h2.below hb, fun j hj h0 => ?_⟩, (h.ra.keep hb).more hb.size, (h.rb.keep hb).more hb.size⟩
  obtain ⟨g, c, e, hs⟩ := h3 j hj h0
  exact ⟨g, c, e, (hs.keep hb).more hb.size⟩
theorem CostAt.skip (h : CostAt a b B M base A A' ca cb v3 v4 w d wr) (hd : d % 64 ≠ 0) : CostAt a b B M base A A' ca cb v3 v4 w (d + 1) wr := by
  obtain ⟨nn, mm, h1, h2, h3⟩ := h.map
  exact ⟨h.bel, h.box, ⟨nn, mm, by omega, h2, fun j hj h0 => h3 j (by by_cases e : j = d; exact absurd (e ▸ h0) hd; omega) h0⟩, h.ra, h.rb⟩
theorem CostAt.put (h : CostAt a b B M base A A' ca cb v3 v4 w d wr) (hMb : base ≤ M) (hBM : B ≠ M) (hbs : base ≤ wr.heap.size) {nn : Nat} {mm : Int → Option Value} (h1 : nn ≤ d) (h2 : MapV wr Tryd.prog 3 IntOk intL M nn mm) (h3 : ∀ j, j < d → j % 64 = 0 → SavedOk a b wr mm j) {g c : Nat}
    (hs : Sl wr wr.heap.size (some ⟨g, 0, none⟩) (d + 1) 1 (natV (lst a b d))) (hm' : MapV w' Tryd.prog 3 IntOk intL M (nn + 1) (fun k => if k = (d : Int) then some (.slice (some ⟨g, 0, none⟩) (d + 1) c) else mm k)) (hg : wr.grownBy w' (some M)) :
    CostAt a b B M base A A' ca cb v3 v4 w (d + 1) w' := by
  have hM : ∃ es c, wr.heap[M]? = some (.map es c) := by
    obtain ⟨D, ⟨es, clock, hbk, _⟩, _⟩ := h2
    exact ⟨es, clock, hbk⟩
  refine ⟨h.bel.grown hg hbs (fun k e => by rw [← Option.some.inj e]; exact hMb), (hg.block B (Array.getElem?_eq_some_iff.1 h.box).1 (fun q => hBM (Option.some.inj q))).trans h.box, ⟨nn + 1, _, by omega, hm', fun j hj h0 => ?_⟩, h.ra.grown hM hg, h.rb.grown hM hg⟩
  by_cases e : j = d
  · subst e
    exact ⟨g, c, by simp, hs.grown hM hg⟩
  · obtain ⟨g', c', e', hs'⟩ := h3 j (by omega) h0
    refine ⟨g', c', ?_, hs'.grown hM hg⟩
    show (if (j : Int) = (d : Int) then _ else _) = _
    rw [if_neg (by omega)]
    exact e'
end
set_option maxHeartbeats 8000000 in
set_option maxRecDepth 100000 in
theorem cost_any (a b : List Int) (B M base : Nat) (A A' : Option Addr) (ca cb : Nat) (v3 v4 : Value) (w : World) (hC : CostAt a b B M base A A' ca cb v3 v4 w 0 w) (hbs : base ≤ w.heap.size) (hBb : base ≤ B) (hMb : base ≤ M) (hBM : B ≠ M) (hn : a.length ≤ 100000) (hm : b.length ≤ 100000) :
    Calls Tryd.prog 83 #[.pointer (some ⟨B, 0, none⟩)] w fun e w' => e = .returned (.int .i64 (C a b 0 0 : Int)) ∧ CostAt a b B M base A A' ca cb v3 v4 w (C a b 0 0 + 1) w' := by
  have hDb : C a b 0 0 ≤ 200000 := by
    have h1 := C_zero_i (a := a) (b := b) a.length (Nat.le_refl _)
    have h2 := C_end (a := a) (b := b) (i := a.length) (j := 0) rfl
    omega
  have HC0 := Lib.hid hC
  clear hC
  go_enter Tryd.func83, Tryd.ntmps83
  go_wp2_with fail
  go_loopw [3, 4] (fun l t wr => ∃ d : Nat, d ≤ C a b 0 0 ∧ t = .int .i64 d ∧ w.heap.size ≤ wr.heap.size ∧ Hid (CostAt a b B M base A A' ca cb v3 v4 w d wr) ∧ Hid ((d = 0 ∧ l = .slice none 0 0) ∨ (∃ e g c, d = e + 1 ∧ l = .slice (some ⟨g, 0, none⟩) d c ∧ Sl wr wr.heap.size (some ⟨g, 0, none⟩) d 1 (natV (lst a b e))))) (fun _ t _ => C a b 0 0 + 1 - (intOf t).toNat)
  case atStart => exact ⟨0, Nat.zero_le _, rfl, Nat.le_refl _, HC0, Lib.hid (.inl ⟨rfl, rfl⟩)⟩
  case round =>
    obtain ⟨d, hd, rfl, hsz, HC, HLL⟩ := hrel
    have hbox := HC.out.box
    have hBz : B < wr.heap.size := (Array.getElem?_eq_some_iff.1 hbox).1
    have hbw : base ≤ wr.heap.size := Nat.le_trans hbs hsz
    have cA : wr.cell? ⟨B, 0, none⟩ = some (.slice A a.length ca) := cells_box hbox 0
    have cB : wr.cell? ⟨B, 1, none⟩ = some (.slice A' b.length cb) := cells_box hbox 1
    have hmt : (d : Int).tmod 64 = ((d % 64 : Nat) : Int) := by rw [Int.tmod_eq_emod_of_nonneg (by omega)]; omega
    rcases HLL.out with ⟨hd0, rfl⟩ | ⟨e, g, c, hde, rfl, hsl⟩
    · have hnx := next0_any' a b B A A' none ca cb 0 0 d hd0 wr hBz cA cB HC.out.ra HC.out.rb hn hm
      have HD0 := Lib.hid hd0
      clear hd0
      go_upto_region 5 with (go_at_call 108; refine hnx.mono ?_; rintro r w2 ⟨hb2, g2, c2, rfl, hown2⟩)
      clear hnx
      have C2 : Hid (CostAt a b B M base A A' ca cb v3 v4 w d w2) := HC.out.below hbw hb2
      have S2 : Hid (Sl w2 w2.heap.size (some ⟨g2, 0, none⟩) (d + 1) 1 (natV (lst a b d))) := Sl.of_own hown2
      have hz2 : w.heap.size ≤ w2.heap.size := Nat.le_trans hsz hb2.size
      clear hb2 hown2 cA cB hbox
      by_cases hmod : d % 64 = 0
      · rw [hmod] at hmt
        obtain ⟨nn, mm, hnn, hM, hsv⟩ := C2.out.map
        have cM : w2.cell? ⟨B, 2, none⟩ = some (.map (some M)) := cells_box C2.out.box 2
        have HM := Lib.hid hM; have HSV := Lib.hid hsv
        clear hM hsv
        go_upto_region 7 with (refine wp_mapPut rfl _ _ _ 139 rfl 100 intEnc Tryd.underlying139 rfl HM.out (by unfold maxLen; omega) (d : Int) (by unfold IntOk; simp [Lit.wf, IntKind.min, IntKind.max, IntKind.signed, IntKind.bits]; omega) rfl _ rfl ?_; intro w3 hm3 hg3)
        have C3 : Hid (CostAt a b B M base A A' ca cb v3 v4 w (d + 1) w3) := C2.out.put hMb hBM (Nat.le_trans hbs hz2) hnn HM.out HSV.out S2.out hm3 hg3
        have S3 : Hid (Sl w3 w3.heap.size (some ⟨g2, 0, none⟩) (d + 1) 1 (natV (lst a b d))) := S2.out.grown (by obtain ⟨D, ⟨es, clock, hbk, _⟩, _⟩ := HM.out; exact ⟨es, clock, hbk⟩) hg3
        have hz3 : w.heap.size ≤ w3.heap.size := Nat.le_trans hz2 hg3.size
        clear cM hm3 hg3
        have hbx := C3.out.box
        have hle := least_any a b B A A' (some ⟨g2, 0, none⟩) ca cb c2 d (lst a b d) 0 w3 (Array.getElem?_eq_some_iff.1 hbx).1 (cells_box hbx 0) (cells_box hbx 1) (by rw [lst_length]; exact S3.out) (by rw [lst_length]; omega) (lst_never (by unfold never; omega) d) hn hm (by omega) (by omega)
        rw [lst_length] at hle
        have hlz := least_zero (a := a) (b := b) (d := d) (by unfold never; omega) hd
        obtain ⟨lv, hlv⟩ : ∃ lv, leastS a b d (lst a b d) 0 = lv := ⟨_, rfl⟩
        rw [hlv] at hle hlz
        clear hbx hlv
        by_cases hlv0 : lv = 0
        · have hdD := hlz.1 hlv0
          have HDD := Lib.hid hdD
          have hlb : ((lv : Int) == 0) = true := by rw [hlv0]; rfl
          clear hdD hlz hlv0
          go_wp2_with (go_at_call 84; refine hle.mono ?_; rintro r w4 ⟨rfl, hg4⟩)
          go_ret
          have h4 := C3.out.below (Nat.le_trans hbs hz3) hg4.below
          rw [HDD.out] at h4
          exact ⟨by rw [← HDD.out]; rfl, h4⟩
        · have hlb : ((lv : Int) == 0) = false := by rw [beq_eq_false_iff_ne]; omega
          have hdD : d < C a b 0 0 := by
            rcases Nat.lt_or_eq_of_le hd with h | h
            · exact h
            · exact absurd (hlz.2 h) hlv0
          clear hlz hlv0
          go_wp2_with (go_at_call 84; refine hle.mono ?_; rintro r w4 ⟨rfl, hg4⟩)
          go_roundw
          case rel => exact ⟨d + 1, hdD, by go_num, Nat.le_trans hz3 hg4.below.size, Lib.hid (C3.out.below (Nat.le_trans hbs hz3) hg4.below), Lib.hid (.inr ⟨d, g2, c2, rfl, rfl, (S3.out.keep hg4.below).more hg4.below.size⟩)⟩
          case measure => simp [intOf]; omega

      · have hmi : (((d % 64 : Nat) : Int) == 0) = false := by rw [beq_eq_false_iff_ne]; omega
        have C3 : Hid (CostAt a b B M base A A' ca cb v3 v4 w (d + 1) w2) := C2.out.skip hmod
        go_upto_region 7 with fail
        have hbx := C3.out.box
        have hle := least_any a b B A A' (some ⟨g2, 0, none⟩) ca cb c2 d (lst a b d) 0 w2 (Array.getElem?_eq_some_iff.1 hbx).1 (cells_box hbx 0) (cells_box hbx 1) (by rw [lst_length]; exact S2.out) (by rw [lst_length]; omega) (lst_never (by unfold never; omega) d) hn hm (by omega) (by omega)
        rw [lst_length] at hle
        have hlz := least_zero (a := a) (b := b) (d := d) (by unfold never; omega) hd
        obtain ⟨lv, hlv⟩ : ∃ lv, leastS a b d (lst a b d) 0 = lv := ⟨_, rfl⟩
        rw [hlv] at hle hlz
        clear hbx hlv
        by_cases hlv0 : lv = 0
        · have hdD := hlz.1 hlv0
          have HDD := Lib.hid hdD
          have hlb : ((lv : Int) == 0) = true := by rw [hlv0]; rfl
          clear hdD hlz hlv0
          go_wp2_with (go_at_call 84; refine hle.mono ?_; rintro r w4 ⟨rfl, hg4⟩)
          go_ret
          have h4 := C3.out.below (Nat.le_trans hbs hz2) hg4.below
          rw [HDD.out] at h4
          exact ⟨by rw [← HDD.out]; rfl, h4⟩
        · have hlb : ((lv : Int) == 0) = false := by rw [beq_eq_false_iff_ne]; omega
          have hdD : d < C a b 0 0 := by
            rcases Nat.lt_or_eq_of_le hd with h | h
            · exact h
            · exact absurd (hlz.2 h) hlv0
          clear hlz hlv0
          go_wp2_with (go_at_call 84; refine hle.mono ?_; rintro r w4 ⟨rfl, hg4⟩)
          go_roundw
          case rel => exact ⟨d + 1, hdD, by go_num, Nat.le_trans hz2 hg4.below.size, Lib.hid (C3.out.below (Nat.le_trans hbs hz2) hg4.below), Lib.hid (.inr ⟨d, g2, c2, rfl, rfl, (S2.out.keep hg4.below).more hg4.below.size⟩)⟩
          case measure => simp [intOf]; omega
    · have hnx := next_any a b B A A' (some ⟨g, 0, none⟩) ca cb c e wr hBz cA cB HC.out.ra HC.out.rb (by rw [← hde]; exact hsl) hn hm (by omega)
      rw [show e + 2 = d + 1 by omega, ← hde] at hnx
      have HDE := Lib.hid hde
      clear hde
      clear hsl
      go_upto_region 5 with (go_at_call 108; refine hnx.mono ?_; rintro r w2 ⟨hb2, g2, c2, rfl, hown2⟩)
      clear hnx
      have C2 : Hid (CostAt a b B M base A A' ca cb v3 v4 w d w2) := HC.out.below hbw hb2
      have S2 : Hid (Sl w2 w2.heap.size (some ⟨g2, 0, none⟩) (d + 1) 1 (natV (lst a b d))) := Sl.of_own hown2
      have hz2 : w.heap.size ≤ w2.heap.size := Nat.le_trans hsz hb2.size
      clear hb2 hown2 cA cB hbox
      by_cases hmod : d % 64 = 0
      · rw [hmod] at hmt
        obtain ⟨nn, mm, hnn, hM, hsv⟩ := C2.out.map
        have cM : w2.cell? ⟨B, 2, none⟩ = some (.map (some M)) := cells_box C2.out.box 2
        have HM := Lib.hid hM; have HSV := Lib.hid hsv
        clear hM hsv
        go_upto_region 7 with (refine wp_mapPut rfl _ _ _ 139 rfl 100 intEnc Tryd.underlying139 rfl HM.out (by unfold maxLen; omega) (d : Int) (by unfold IntOk; simp [Lit.wf, IntKind.min, IntKind.max, IntKind.signed, IntKind.bits]; omega) rfl _ rfl ?_; intro w3 hm3 hg3)
        have C3 : Hid (CostAt a b B M base A A' ca cb v3 v4 w (d + 1) w3) := C2.out.put hMb hBM (Nat.le_trans hbs hz2) hnn HM.out HSV.out S2.out hm3 hg3
        have S3 : Hid (Sl w3 w3.heap.size (some ⟨g2, 0, none⟩) (d + 1) 1 (natV (lst a b d))) := S2.out.grown (by obtain ⟨D, ⟨es, clock, hbk, _⟩, _⟩ := HM.out; exact ⟨es, clock, hbk⟩) hg3
        have hz3 : w.heap.size ≤ w3.heap.size := Nat.le_trans hz2 hg3.size
        clear cM hm3 hg3
        have hbx := C3.out.box
        have hle := least_any a b B A A' (some ⟨g2, 0, none⟩) ca cb c2 d (lst a b d) 0 w3 (Array.getElem?_eq_some_iff.1 hbx).1 (cells_box hbx 0) (cells_box hbx 1) (by rw [lst_length]; exact S3.out) (by rw [lst_length]; omega) (lst_never (by unfold never; omega) d) hn hm (by omega) (by omega)
        rw [lst_length] at hle
        have hlz := least_zero (a := a) (b := b) (d := d) (by unfold never; omega) hd
        obtain ⟨lv, hlv⟩ : ∃ lv, leastS a b d (lst a b d) 0 = lv := ⟨_, rfl⟩
        rw [hlv] at hle hlz
        clear hbx hlv
        by_cases hlv0 : lv = 0
        · have hdD := hlz.1 hlv0
          have HDD := Lib.hid hdD
          have hlb : ((lv : Int) == 0) = true := by rw [hlv0]; rfl
          clear hdD hlz hlv0
          go_wp2_with (go_at_call 84; refine hle.mono ?_; rintro r w4 ⟨rfl, hg4⟩)
          go_ret
          have h4 := C3.out.below (Nat.le_trans hbs hz3) hg4.below
          rw [HDD.out] at h4
          exact ⟨by rw [← HDD.out]; rfl, h4⟩
        · have hlb : ((lv : Int) == 0) = false := by rw [beq_eq_false_iff_ne]; omega
          have hdD : d < C a b 0 0 := by
            rcases Nat.lt_or_eq_of_le hd with h | h
            · exact h
            · exact absurd (hlz.2 h) hlv0
          clear hlz hlv0
          go_wp2_with (go_at_call 84; refine hle.mono ?_; rintro r w4 ⟨rfl, hg4⟩)
          go_roundw
          case rel => exact ⟨d + 1, hdD, by go_num, Nat.le_trans hz3 hg4.below.size, Lib.hid (C3.out.below (Nat.le_trans hbs hz3) hg4.below), Lib.hid (.inr ⟨d, g2, c2, rfl, rfl, (S3.out.keep hg4.below).more hg4.below.size⟩)⟩
          case measure => simp [intOf]; omega

      · have hmi : (((d % 64 : Nat) : Int) == 0) = false := by rw [beq_eq_false_iff_ne]; omega
        have C3 : Hid (CostAt a b B M base A A' ca cb v3 v4 w (d + 1) w2) := C2.out.skip hmod
        go_upto_region 7 with fail
        have hbx := C3.out.box
        have hle := least_any a b B A A' (some ⟨g2, 0, none⟩) ca cb c2 d (lst a b d) 0 w2 (Array.getElem?_eq_some_iff.1 hbx).1 (cells_box hbx 0) (cells_box hbx 1) (by rw [lst_length]; exact S2.out) (by rw [lst_length]; omega) (lst_never (by unfold never; omega) d) hn hm (by omega) (by omega)
        rw [lst_length] at hle
        have hlz := least_zero (a := a) (b := b) (d := d) (by unfold never; omega) hd
        obtain ⟨lv, hlv⟩ : ∃ lv, leastS a b d (lst a b d) 0 = lv := ⟨_, rfl⟩
        rw [hlv] at hle hlz
        clear hbx hlv
        by_cases hlv0 : lv = 0
        · have hdD := hlz.1 hlv0
          have HDD := Lib.hid hdD
          have hlb : ((lv : Int) == 0) = true := by rw [hlv0]; rfl
          clear hdD hlz hlv0
          go_wp2_with (go_at_call 84; refine hle.mono ?_; rintro r w4 ⟨rfl, hg4⟩)
          go_ret
          have h4 := C3.out.below (Nat.le_trans hbs hz2) hg4.below
          rw [HDD.out] at h4
          exact ⟨by rw [← HDD.out]; rfl, h4⟩
        · have hlb : ((lv : Int) == 0) = false := by rw [beq_eq_false_iff_ne]; omega
          have hdD : d < C a b 0 0 := by
            rcases Nat.lt_or_eq_of_le hd with h | h
            · exact h
            · exact absurd (hlz.2 h) hlv0
          clear hlz hlv0
          go_wp2_with (go_at_call 84; refine hle.mono ?_; rintro r w4 ⟨rfl, hg4⟩)
          go_roundw
          case rel => exact ⟨d + 1, hdD, by go_num, Nat.le_trans hz2 hg4.below.size, Lib.hid (C3.out.below (Nat.le_trans hbs hz2) hg4.below), Lib.hid (.inr ⟨d, g2, c2, rfl, rfl, (S2.out.keep hg4.below).more hg4.below.size⟩)⟩
          case measure => simp [intOf]; omega
end Go.Proofs.YtfjmbcljohobeaaDoor
namespace Go.Proofs.YtfjmbcljohobeaaDoor
open Go.RowKit Go.Maps
set_option linter.unusedVariables false


theorem oper_wp_val {P : Program} {o : Oper} {a : Act} {w w' : World} {v : Value} {K : Act → World → Prop} {Q : Exit → Act → World → Prop} (h : (execOp a.eval o).run P w = .ok (.value v) w') (hk : K (a.put o.dst v) w') : o.wp P a w K Q := by
  unfold Oper.wp
  rw [h]
  exact hk
theorem oper_wp_skip {P : Program} {o : Oper} {a : Act} {w w' : World} {K : Act → World → Prop} {Q : Exit → Act → World → Prop} (h : (execOp a.eval o).run P w = .ok .skip w') (hk : K (a.put o.dst undef) w') : o.wp P a w K Q := by
  unfold Oper.wp
  rw [h]
  exact hk
theorem wpOp_val {P : Program} {ops : Array Oper} {Q : Exit → Act → World → Prop} {i : Nat} {K : Act → World → Prop} {a : Act} {w w' : World} {v : Value} (o : Oper) (hi : ops[i]? = some o) (hw : Region.wanted o (yielded ops a.tmps) = true)
    (h : (execOp a.eval o).run P w = .ok (.value v) w') (hk : K (a.put o.dst v) w') : wpOp P ops Q i K a w := by
  unfold wpOp
  simp only [hi, if_pos hw]
  exact .inl (oper_wp_val h hk)
theorem wpOp_skip {P : Program} {ops : Array Oper} {Q : Exit → Act → World → Prop} {i : Nat} {K : Act → World → Prop} {a : Act} {w w' : World} (o : Oper) (hi : ops[i]? = some o) (hw : Region.wanted o (yielded ops a.tmps) = true)
    (h : (execOp a.eval o).run P w = .ok .skip w') (hk : K (a.put o.dst undef) w') : wpOp P ops Q i K a w := by
  unfold wpOp
  simp only [hi, if_pos hw]
  exact .inl (oper_wp_skip h hk)
theorem wpOp_call {P : Program} {ops : Array Oper} {Q : Exit → Act → World → Prop} {i : Nat} {K : Act → World → Prop} {a : Act} {w : World} {f : FuncId} {args : Array Value} (o : Oper) (hi : ops[i]? = some o) (hw : Region.wanted o (yielded ops a.tmps) = true)
    (h : (execOp a.eval o).run P w = .ok (.enter f args) w) (hc : Calls P f args w fun e w' => ∃ v, e = .returned v ∧ K (a.put o.dst v) w') : wpOp P ops Q i K a w := by
  unfold wpOp
  simp only [hi, if_pos hw]
  refine .inl ?_
  unfold Oper.wp
  rw [h]
  exact hc.mono fun e w' ⟨v, he, hk⟩ => by subst he; exact hk
section
variable {P : Program} {ρ : Operand → Value} {o : Oper} {w : World}
theorem ex_callFn {f : FuncId} {xs : Array Operand} {ts : Array TypeId} {args : Array Value} (ho : o.op = .call { callee := .value (.func f), args := xs, argTypes := ts }) (hf : ρ (.func f) = .func (.func f) #[] #[]) (hE : ∀ args w, (callFunc f args).run P w = .ok (.enter f args) w) (ha : xs.map ρ = args) :
    (execOp ρ o).run P w = .ok (.enter f args) w := by
  unfold execOp
  simp only [ho, resolve, hf, Deferred.ofValue, ha, Array.empty_append, Sem.run_bind, Sem.run_pure, Result.andThen_ok, invoke, Array.append_empty, hE]
theorem ex_alloc {t : TypeId} {cs : Array Value} (ho : o.op = .alloc t) (hz : (zeroValue t).run P w = .ok (.agg cs) w) : (execOp ρ o).run P w = .ok (.value (.pointer (some ⟨w.heap.size, 0, none⟩))) (w.alloc (.cells cs t)) := by
  unfold execOp
  simp [ho, Instr.alloc, newVar, newRow, hz, Result.andThen, Sem.run_bind, Value.cells]
theorem ex_lookup2 (t : TypeId) (x ix : Operand) (ho : o.op = .lookup t x ix true) {vm vk v : Value} {w' : World} (hx : ρ x = vm) (hk : ρ ix = vk) (h : (Instr.lookup t vm vk true).run P w = .ok v w') : (execOp ρ o).run P w = .ok (.value v) w' := by
  unfold execOp
  simp only [ho, hx, hk, Sem.run_bind, h, Result.andThen_ok, Sem.run_pure]
end
/-- 'v, ok := m[k]', as the run has it. -/
theorem MapV.look2 {P : Program} {K t e : TypeId} {κ : Type} {ok : κ → Prop} {val : κ → Value} {kl : κ → Lit} {w : World} {b n : Nat} {m : κ → Option Value} (E : KeyEnc P K ok val kl) (ht : P.underlying t = some (.map K e)) {z : Value} (hz : ∀ u : World, (zeroValue e).run P u = .ok z u) (h : MapV w P K ok kl b n m) {k0 : κ} (hk : ok k0) :
    (Instr.lookup t (.map (some b)) (val k0) true).run P w = .ok (.tuple #[(m k0).getD z, .bool (m k0).isSome]) w := by
  obtain ⟨D, h1, hm, h3, h4⟩ := h
  obtain ⟨v, ps, hrun, hv⟩ := h1.look_ok E.keyed ht (hz w) (zd := .held z) (zp := []) rfl (E.of k0 hk)
  have hv' : v = (m k0).getD z := by
    have e1 : (DataW.held v : DataW Value) = D.atKey (kl k0) (.held z) := congrArg Prod.fst (Option.some.inj hv)
    rcases hmk : m k0 with _ | u
    · have hh : has D (kl k0) = false := by rw [h3 k0 hk, hmk]; rfl
      rw [atKey_of_not_has hh] at e1
      injection e1
    · rw [h4 k0 u hk hmk] at e1
      injection e1
  rw [hrun, hv', h3 k0 hk]


theorem wpOp_wp {P : Program} {ops : Array Oper} {Q : Exit → Act → World → Prop} {i : Nat} {K : Act → World → Prop} {a : Act} {w : World} (o : Oper) (hi : ops[i]? = some o) (hw : Region.wanted o (yielded ops a.tmps) = true)
    (h : o.wp P a w K Q) : wpOp P ops Q i K a w := by
  unfold wpOp
  simp only [hi, if_pos hw]
  exact .inl h
section
variable {P : Program} {w : World}
theorem ex_build0 {ρ : Operand → Value} {o : Oper} (t : TypeId) (ho : o.op = .buildSlice t 0 #[]) (e : TypeId) (ht : P.underlying t = some (.slice e)) (i : TypeInfo) (hi : P.info? e = some i) :
    (execOp ρ o).run P w = .ok (.value (.slice (some ⟨w.heap.size, 0, none⟩) 0 0)) (w.alloc (.cells #[] e)) := by
  have h0 : ∀ f : Nat → Value, Array.map f (Array.range 0) = #[] := fun f => Array.eq_empty_of_size_eq_zero (by simp)
  unfold execOp
  simp [ho, Instr.buildSlice, Sem.run_bind, run_underlying ht, Result.andThen, sizeOf, typeInfo, hi, Instr.fill, newRow, h0]
theorem own_made0 (w : World) (base : Nat) (e : TypeId) (size : Nat) (hb : base ≤ w.heap.size) : (w.alloc (.cells #[] e)).ownsRow base e size (.slice (some ⟨w.heap.size, 0, none⟩) 0 0) 0 [] :=
  ⟨by simp, .inr ⟨w.heap.size, 0, #[], rfl, hb, heap_alloc_new _ _, Nat.le_refl _, by decide, by simp, by simp⟩⟩
theorem wp_append_sl {o : Oper} {a : Act} {K : Act → World → Prop} {Q : Exit → Act → World → Prop} (s x : Operand) (t : TypeId)
    (ho : o.op = .call { callee := .builtin .append, args := #[s, x], argTypes := #[t, t] })
    (base : Nat) (e : TypeId) (i : TypeInfo) (z : Value) (size bytes : Nat) (ht : P.underlying t = some (.slice e)) (hi : P.info? e = some i) (hz : i.zero = some z)
    (hsize : i.size = size) (hby : i.bytes = bytes) (hzs : z.cells.size = size) (hsz : 0 < size)
    (v : Value) (n : Nat) (xs : List Value) (hs : a.eval s = v) (hown : w.ownsRow base e size v n xs)
    (A : Option Addr) (m c B : Nat) (news : List Value) (hx : a.eval x = .slice A m c) (hsl : Sl w B A m size news) (h1 : ∀ u ∈ news, u.oneCell' = true)
    (h63 : n + m ≤ maxLen) (hbytes : (n + m) * bytes ≤ 140737488355328) (hbase : base ≤ w.heap.size)
    (h : ∀ v' w', w'.ownsRow base e size v' (n + m) (xs ++ news) → w.grownBy w' v.ownBlock → K (a.put o.dst v') w') : o.wp P a w K Q := by
  have hnil : m = 0 → news = [] := fun h0 => List.eq_nil_of_length_eq_zero (by rw [hsl.1, h0, Nat.zero_mul])
  rcases A with _ | ad
  · have hm : m = 0 := by
      rcases Nat.eq_zero_or_pos m with h0 | hp
      · exact h0
      · obtain ⟨b, off, e1, _⟩ := hsl.2 hp; cases e1
    subst hm
    obtain rfl := hnil rfl
    have hgr : w.grownBy w v.ownBlock := ⟨rfl, rfl, rfl, Nat.le_refl _, fun _ _ _ => rfl⟩
    have hle : ∃ A0 c0, v = .slice A0 n c0 ∧ n ≤ c0 := by
      rcases hown.2 with ⟨rfl, rfl⟩ | ⟨g, cap, cur, rfl, _, _, hnc, _⟩
      · exact ⟨_, _, rfl, Nat.le_refl _⟩
      · exact ⟨_, _, rfl, hnc⟩
    obtain ⟨A0, c0, rfl, hnc⟩ := hle
    have hr : (Builtin.append_ #[t, t] o.type #[.slice A0 n c0, .slice none 0 c]).run P w = .ok (.slice A0 n c0) w := by
      rcases A0 with _ | a0
      · simp [Builtin.append_, run_underlying ht, sizeOf, typeInfo, hi, Builtin.lenOf, Builtin.firstCells, hnc]
      · simp [Builtin.append_, run_underlying ht, sizeOf, typeInfo, hi, Builtin.lenOf, Builtin.firstCells, hnc, storeCells]
    unfold Oper.wp execOp
    simp only [ho, resolve, invoke, builtin, Sem.run_bind, Sem.run_pure, Result.andThen_ok, List.map_toArray, List.map_cons, List.map_nil, hs, hx, hr]
    exact h _ w (by simpa using hown) hgr
  · refine wp_append_own w s x t ho base e i z size bytes ht hi hz hsize hby hzs hsz v n xs hs hown ad m c news hx hsl.1 ?_ h1 h63 hbytes hbase fun v' w' h2 h3 _ => h v' w' h2 h3
    intro j u hj
    rcases Nat.eq_zero_or_pos m with h0 | hp
    · rw [hnil h0] at hj; cases hj
    · obtain ⟨b, off, e1, _, hc⟩ := hsl.2 hp
      obtain rfl := Option.some.inj e1
      rw [Addr.add_mid]
      exact hc j u hj
end


theorem ex_store1 {P : Program} {o : Oper} {w : World} {ρ : Operand → Value} (ty : TypeId) (x y : Operand) (ho : o.op = .store ty x y) (g j : Nat) (v : Value) (hx : ρ x = .pointer (some ⟨g, j, none⟩)) (hy : ρ y = v) (h1 : v.oneCell' = true) (hv : v.cells = #[v])
    (hi : (P.info? ty).map (·.size) = some 1) {u : Value} (hc : w.cell? ⟨g, j, none⟩ = some u) (hf : w.frozen? ⟨g, j, none⟩ = false) : (execOp ρ o).run P w = .ok .skip (w.setCell ⟨g, j, none⟩ v) := by
  have h := run_storeCells_cells (P := P) g j [v] 0 w (fun i hi => by
      have : i = 0 := by simpa using hi
      subst this; simp [hc]) (fun i hi => by
      have : i = 0 := by simpa using hi
      subst this; simpa using hf) (fun q hq => by rw [List.mem_singleton.1 hq]; exact h1)
  have hset : w.setCells g (j + 0) [v] = w.setCell ⟨g, j, none⟩ v := rfl
  rw [hset] at h
  unfold execOp
  cases hq : P.info? ty with
  | none => simp [hq] at hi
  | some i =>
    have hs : i.size = 1 := by simpa [hq] using hi
    simp only [ho, hx, hy, Instr.storeAt, Instr.sureAddr, Sem.run_bind, Sem.run_pure, Result.andThen_ok]
    simp [storeVar, sizeOf, typeInfo, hq, hv, hs, h]
end Go.Proofs.YtfjmbcljohobeaaDoor
