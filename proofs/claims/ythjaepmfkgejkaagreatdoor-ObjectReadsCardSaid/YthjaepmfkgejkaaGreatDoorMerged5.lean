/-
  What Author, Note, Name and Path give. Path asks that the library's variable MaxLen holds a number.
  A path that clashes with none, as a plain function; that it is found within as many steps as there are taken paths. No conditions; no program.
  What Clash and Fresh give. Conditions: texts of at most 2^47 bytes; at most 97 taken paths (Fresh).
-/
import Derived.Test.YthjaepmfkgejkaaGreatDoorMerged4
import Derived.Test.YthjaepmfkgejkaaGreatDoorMerged3
set_option linter.unusedVariables false
set_option maxRecDepth 100000
namespace Go.Proofs.YthjaepmfkgejkaaGreatDoor
open Lib (hid)
open Go.RowKit
theorem Kf (s : ByteArray) (w : World) (hs : s.size ≤ maxLen) : Calls Tryz.prog 75 #[.string s] w fun e w' => Below w.heap.size w w' ∧ e = .returned (.bool (zg s)) := by
  have hs' := hs
  unfold maxLen at hs
  by_cases h1 : 1 ≤ s.size
  ·
   by_cases h2 : s.size ≤ 32
   ·
    rw [show zg s = jS s jD by simp [zg, h1, h2]]
    go_enter Tryz.func75, Tryz.ntmps75
    go_wp2_with (go_at_call 97; refine (Zx s _ hs').mono ?_; rintro e w1 ⟨hb1, rfl⟩)
    go_ret
    exact ⟨hb1, rfl⟩
   ·
    rw [show zg s = false by simp [zg, h2]]
    go_enter Tryz.func75, Tryz.ntmps75
    go_wp2_with fail
    go_ret
    exact ⟨Below.refl _ _, rfl⟩
  ·
   rw [show zg s = false by simp [zg, h1]]
   go_enter Tryz.func75, Tryz.ntmps75
   go_wp2_with fail
   go_ret
   exact ⟨Below.refl _ _, rfl⟩
theorem U4 (s : ByteArray) (w : World) (hs : s.size ≤ maxLen) : Calls Tryz.prog 77 #[.string s] w fun e w' => Below w.heap.size w w' ∧ e = .returned (.bool (JC s)) := by
  have hs' := hs
  unfold maxLen at hs
  by_cases h2 : s.size ≤ 256
  ·
   rw [show JC s = jS s qf by simp [JC, h2, anyB_text]]
   go_enter Tryz.func77, Tryz.ntmps77
   go_wp2_with (go_at_call 97; refine (plain_yes s _ hs').mono ?_; rintro e w1 ⟨hb1, rfl⟩)
   go_ret
   exact ⟨hb1, rfl⟩
  ·
   rw [show JC s = false by simp [JC, h2]]
   go_enter Tryz.func77, Tryz.ntmps77
   go_wp2_with fail
   go_ret
   exact ⟨Below.refl _ _, rfl⟩
def Glob (w : World) : Prop := ∃ m : Int, w.cell? ⟨2, 0, none⟩ = some (.int .i64 m)
theorem Glob.keep {w w' : World} {B : Nat} (h : Glob w) (hb : Below B w w') (hB : 2 < B) : Glob w' := by
  obtain ⟨m, hm⟩ := h
  exact ⟨m, (hb.cell (p := ⟨2, 0, none⟩) hB).trans hm⟩
theorem Glob.lt {w : World} (h : Glob w) : 2 < w.heap.size := by
  obtain ⟨m, hm⟩ := h
  rcases Nat.lt_or_ge 2 w.heap.size with a | a
  · exact a
  · unfold World.cell? at hm
    rw [Array.getElem?_eq_none a] at hm
    cases hm
theorem Glob.next {w w' : World} (h : Glob w) (hb : Below w.heap.size w w') : Glob w' := h.keep hb h.lt
theorem piece_eq (p : ByteArray) : Kt (L p) = (!p.toList.isEmpty && !(p.toList == [46]) && !(p.toList == [46, 46])) := by
  rw [vw, Bool.eq_iff_iff]
  simp [Kt]
theorem vE (s : ByteArray) (w : World) (hs : s.size ≤ maxLen) (hg : Glob w) : Calls Tryz.prog 101 #[.string s] w fun e w' => Below w.heap.size w w' ∧ e = .returned (.bool (zf s)) := by
  have hs' := hs
  unfold maxLen at hs
  by_cases h1 : s.size < 1
  ·
   rw [show zf s = false by simp [zf]; omega]
   go_enter Tryz.func101, Tryz.ntmps101
   go_wp2_with fail
   go_ret
   exact ⟨Below.refl _ _, rfl⟩
  by_cases h2 : 64 < s.size
  ·
   rw [show zf s = false by simp [zf]; omega]
   go_enter Tryz.func101, Tryz.ntmps101
   go_wp2_with fail
   go_ret
   exact ⟨Below.refl _ _, rfl⟩
  cases hp : jS s jD
  ·
   have HP := hid hp; clear hp
   rw [show zf s = false by simp [zf, HP.out]]
   go_enter Tryz.func101, Tryz.ntmps101
   go_wp2_with (go_at_call 97; refine (Zx s _ hs').mono ?_; rw [HP.out]; rintro e w1 ⟨hb1, rfl⟩)
   go_ret
   exact ⟨hb1, rfl⟩
  ·
   have HP := hid hp; clear hp
   have HN : Hid (zf s = ((Lib.splitB zW 0 (Lib.countB s zW) s).map L).all Kt) := hid (by rw [vf]; simp [zf, HP.out]; omega)
   have hlen := Lib.splitB_all zW (by decide) 0 (Lib.countB s zW) s rfl
   have hle := Lib.countB_le zW (by decide) _ s (Nat.le_refl _)
   generalize hq : Lib.splitB zW 0 (Lib.countB s zW) s = q at *
   have HQ := hid hq; clear hq
   have hql : q.length ≤ 65 := by omega
   have HL := hid hlen; clear hlen hle
   go_enter Tryz.func101, Tryz.ntmps101
   go_wp2_with (go_at_call 97; refine (Zx s _ hs').mono ?_; rw [HP.out]; rintro e w1 ⟨hb1, rfl⟩)
   obtain ⟨m, hm⟩ := hg.next hb1
   refine (Tryz.strings_Split s zW m w1 (by omega) hm (by decide)).mono ?_
   rw [HQ.out, ← HL.out]
   rintro e w2 ⟨rfl, hw2⟩
   have hbw : Below w.heap.size w w2 := by rw [hw2]; exact hb1.alloc hb1.size _
   have hcell : ∀ j, (h : j < q.length) → w2.cell? ⟨w1.heap.size, j, none⟩ = some (.string q[j]) := by
     intro j h
     rw [hw2, World.cell?_alloc_new]
     simp [h]
   have HC := hid hcell; clear hcell hw2
   go_wp2_with fail
   go_loop [21] (fun t => ∃ k : Nat, k ≤ q.length ∧ t = .int .i64 k ∧ Hid (∀ j (h : j < q.length), j < k → Kt (L q[j]) = true)) (fun t => q.length - (intOf t).toNat)
   case atStart => exact ⟨0, by omega, rfl, hid fun j _ hj => absurd hj (by omega)⟩
   case round =>
     obtain ⟨k, hk, rfl, hR⟩ := hrel
     by_cases hlt : k < q.length
     ·
      have hc := HC.out k hlt
      have hpe := piece_eq q[k]
      have hstop : Kt (L q[k]) = false → zf s = false := by
        intro h
        rw [HN.out, List.all_eq_false]
        exact ⟨L q[k], List.mem_map_of_mem (List.getElem_mem hlt), by simp [h]⟩
      have hgo : Kt (L q[k]) = true → ∀ j (h : j < q.length), j < k + 1 → Kt (L q[j]) = true := by
        intro h j hj hjk
        rcases (by omega : j < k ∨ j = k) with h' | h'
        · exact hR.out j hj h'
        · subst h'; exact h
      generalize hqk : q[k] = p at *
      clear hqk
      have HPE := hid hpe; clear hpe
      have HST := hid hstop; clear hstop
      have HGO := hid hgo; clear hgo
      cases e1 : p.toList.isEmpty
      ·
       cases e2 : (p.toList == [46])
       ·
        cases e3 : (p.toList == [46, 46])
        ·
         have hy : Hid (Kt (L p) = true) := hid (by rw [HPE.out, e1, e2, e3]; rfl)
         go_wp2_with fail
         go_round
         case rel => exact ⟨k + 1, by omega, by go_num, hid (HGO.out hy.out)⟩
         case measure => simp [intOf]; omega
        ·
         have hy : Hid (zf s = false) := hid (HST.out (by rw [HPE.out, e1, e2, e3]; rfl))
         go_wp2_with fail
         go_ret
         exact ⟨hbw, by rw [hy.out]; rfl⟩
       ·
        have hy : Hid (zf s = false) := hid (HST.out (by rw [HPE.out, e1, e2]; rfl))
        go_wp2_with fail
        go_ret
        exact ⟨hbw, by rw [hy.out]; rfl⟩
      ·
       have hy : Hid (zf s = false) := hid (HST.out (by rw [HPE.out, e1]; rfl))
       go_wp2_with fail
       go_ret
       exact ⟨hbw, by rw [hy.out]; rfl⟩
     ·
      go_wp2_with fail
      go_ret
      refine ⟨hbw, ?_⟩
      have : zf s = true := by
        rw [HN.out, List.all_eq_true]
        intro x hx
        obtain ⟨y, hy, rfl⟩ := List.mem_map.1 hx
        obtain ⟨j, hj, rfl⟩ := List.getElem_of_mem hy
        exact hR.out j hj (by omega)
      rw [this]; rfl
end Go.Proofs.YthjaepmfkgejkaaGreatDoor
namespace Go.Proofs.YthjaepmfkgejkaaGreatDoor
def valOf (l : List UInt8) : Nat := l.foldl (fun a c => 10 * a + (c.toNat - 48)) 0
theorem U5 (l : List UInt8) (c : UInt8) : valOf (l ++ [c]) = 10 * valOf l + (c.toNat - 48) := by simp [valOf]
theorem JP {d : Nat} (h : d < 10) : (UInt8.ofNat (48 + d)).toNat = 48 + d := by
  simp; omega
theorem Zy {u : Nat} (h : ¬ u < 10) : Lib.decDigits u = Lib.decDigits (u / 10) ++ [UInt8.ofNat (48 + u % 10)] := by
  rw [Lib.decDigits, dif_neg h]
theorem vF : ∀ (n u : Nat), u ≤ n → valOf (Lib.decDigits u) = u := by
  intro n
  induction n with
  | zero => intro u hu; rw [show u = 0 by omega, Lib.decDigits_one (by omega)]; decide
  | succ n ih =>
    intro u hu
    by_cases h : u < 10
    ·
     rw [Lib.decDigits_one h]
     have := U5 [] (UInt8.ofNat (48 + u))
     rw [List.nil_append] at this
     rw [this, JP h]
     simp [valOf]
    · rw [Zy h, U5, ih (u / 10) (by omega), JP (by omega)]
      omega
theorem Ur {a b : Nat} (h : Lib.decDigits a = Lib.decDigits b) : a = b := by
  have h1 := vF a a (Nat.le_refl _)
  have h2 := vF b b (Nat.le_refl _)
  rw [h] at h1; omega
theorem Us : ∀ (n u : Nat), u ≤ n → ∀ c ∈ Lib.decDigits u, 48 ≤ c.toNat ∧ c.toNat ≤ 57 := by
  intro n
  induction n with
  | zero => intro u hu; rw [show u = 0 by omega, Lib.decDigits_one (by omega)]; decide
  | succ n ih =>
    intro u hu c hc
    by_cases h : u < 10
    ·
     rw [Lib.decDigits_one h] at hc
     simp only [List.mem_singleton] at hc
     subst hc
     rw [JP h]; omega
    ·
     rw [Zy h] at hc
     rcases List.mem_append.1 hc with hc | hc
     · exact ih (u / 10) (by omega) c hc
     · simp only [List.mem_singleton] at hc
       subst hc
       rw [JP (by omega)]; omega
def zK (l : List UInt8) : List UInt8 := l.takeWhile (· != 47)
def restc (l : List UInt8) : List UInt8 := l.dropWhile (· != 47)
theorem U6 (l : List UInt8) : zK l ++ restc l = l := List.takeWhile_append_dropWhile
theorem firstc_no (l : List UInt8) : (47 : UInt8) ∉ zK l := by
  induction l with
  | nil => simp [zK]
  | cons c l ih =>
    unfold zK at ih ⊢
    rw [List.takeWhile_cons]
    split
    · rename_i hc
      simp only [List.mem_cons, not_or]
      exact ⟨fun e => by rw [← e] at hc; simp at hc, ih⟩
    · simp
theorem JE {a : List UInt8} (ha : (47 : UInt8) ∉ a) (b : List UInt8) : zK (a ++ 47 :: b) = a := by
  unfold zK
  rw [List.takeWhile_append_of_pos]
  · simp
  · intro x hx
    simp only [bne_iff_ne]
    intro e; exact ha (e ▸ hx)
theorem Zz {a : List UInt8} (ha : (47 : UInt8) ∉ a) : zK a = a := by
  have := List.takeWhile_append_of_pos (p := (· != (47 : UInt8))) (l₁ := a) (l₂ := []) (by
    intro x hx
    simp only [bne_iff_ne]
    intro e; exact ha (e ▸ hx))
  simpa [zK] using this
theorem restc_form (l : List UInt8) : restc l = [] ∨ ∃ b, restc l = 47 :: b := by
  rcases Zu l with h | ⟨a, b, rfl, ha⟩
  ·
   left
   have := U6 l
   rw [Zz h] at this
   have := congrArg List.length this
   simp at this
   exact this
  ·
   right
   have := U6 (a ++ 47 :: b)
   rw [JE ha] at this
   exact ⟨b, List.append_cancel_left this⟩
theorem un {a b : List UInt8} (h : qc a b = true) : zK a = zK b := by
  unfold qc at h
  rw [List.isPrefixOf_iff_prefix] at h
  obtain ⟨t, rfl⟩ := h
  rw [List.append_assoc]
  rcases Zu a with ha | ⟨x, y, rfl, hx⟩
  · rw [Zz ha]; exact (JE ha _).symm
  · rw [JE hx, List.append_assoc]; exact (JE hx _).symm
theorem clash_first {a b : List UInt8} (h : clashB a b = true) : zK a = zK b := by
  unfold clashB at h
  simp only [Bool.or_eq_true, decide_eq_true_eq] at h
  rcases h with (h | h) | h
  · rw [h]
  · exact un h
  · exact (un h).symm
def ZA (l : List UInt8) (n : Nat) : List UInt8 := zK l ++ [126] ++ Lib.decDigits n ++ restc l
theorem U7 (l : List UInt8) (n : Nat) : zK (ZA l n) = zK l ++ [126] ++ Lib.decDigits n := by
  have hno : (47 : UInt8) ∉ zK l ++ [126] ++ Lib.decDigits n := by
    intro h
    rcases List.mem_append.1 h with h | h
    · rcases List.mem_append.1 h with h | h
      · exact firstc_no l h
      · simp at h
    · have := Us n n (Nat.le_refl _) _ h
      simp at this
  unfold ZA
  rcases restc_form l with h | ⟨b, h⟩
  · rw [h, List.append_nil, Zz hno]
  · rw [h, JE hno]
theorem cand_inj {l : List UInt8} {a b : Nat} (h : zK (ZA l a) = zK (ZA l b)) : a = b := by
  rw [U7, U7] at h
  exact Ur (List.append_cancel_left h)
def Z2 (t : List UInt8) (taken : List (List UInt8)) : Bool := taken.any (clashB t)
theorem pigeon {α : Type} [DecidableEq α] (f : Nat → α) (hf : ∀ a b, f a = f b → a = b) : ∀ (T : List α) (J : List Nat), J.Nodup → (∀ j ∈ J, f j ∈ T) → J.length ≤ T.length := by
  intro T
  induction T with
  | nil =>
    intro J _ h
    cases J with
    | nil => simp
    | cons j J => exact absurd (h j (by simp)) (by simp)
  | cons t T ih =>
    intro J hJ h
    by_cases he : ∃ j ∈ J, f j = t
    ·
     obtain ⟨j0, hj0, hf0⟩ := he
     have h1 := ih (J.erase j0) (hJ.erase j0) (by
       intro j hj
       have hm := (List.Nodup.mem_erase_iff hJ).1 hj
       rcases List.mem_cons.1 (h j hm.2) with e | e
       · exact absurd (hf _ _ (e.trans hf0.symm)) hm.1
       · exact e)
     rw [List.length_erase_of_mem hj0] at h1
     simp only [List.length_cons]; omega
    ·
     have h1 := ih J hJ (by
       intro j hj
       rcases List.mem_cons.1 (h j hj) with e | e
       · exact absurd ⟨j, hj, e⟩ he
       · exact e)
     simp only [List.length_cons]; omega
theorem cand_few {l : List UInt8} {taken : List (List UInt8)} {m : Nat} (h : ∀ j, 1 ≤ j → j ≤ m → Z2 (ZA l j) taken = true) : m ≤ taken.length := by
  have := pigeon (fun j => zK (ZA l (j + 1))) (fun a b e => by have := cand_inj e; omega) (taken.map zK) (List.range m) List.nodup_range (by
    intro j hj
    have hj' : j < m := by simpa using hj
    have hc := h (j + 1) (by omega) (by omega)
    unfold Z2 at hc
    rw [List.any_eq_true] at hc
    obtain ⟨o, ho, hco⟩ := hc
    rw [show zK (ZA l (j + 1)) = zK o from clash_first hco]
    exact List.mem_map_of_mem ho)
  simpa using this
def vG (l : List UInt8) (taken : List (List UInt8)) : Nat → Nat → List UInt8 → List UInt8
  | 0, _, t => t
  | f + 1, n, t => if Z2 t taken then vG l taken f (n + 1) (ZA l n) else t
def freshS (l : List UInt8) (taken : List (List UInt8)) : List UInt8 := vG l taken (taken.length + 2) 1 l
end Go.Proofs.YthjaepmfkgejkaaGreatDoor
namespace Go.Proofs.YthjaepmfkgejkaaGreatDoor
open Go.RowKit
structure Trying (s : ByteArray) (taken : List (List UInt8)) (k f : Nat) (t : ByteArray) : Prop where
  one : 1 ≤ k
  sum : k + f = taken.length + 3
  size : t.size ≤ s.size + 4
  is : freshS (L s) taken = vG (L s) taken f k (L t)
  cand : 2 ≤ k → L t = ZA (L s) (k - 1)
  behind : ∀ j, 1 ≤ j → j + 1 < k → Z2 (ZA (L s) j) taken = true
theorem Trying.start (s : ByteArray) (taken : List (List UInt8)) : Trying s taken 1 (taken.length + 2) s :=
  ⟨by omega, by omega, by omega, rfl, fun h => absurd h (by omega), fun j h1 h2 => absurd h2 (by omega)⟩
theorem Trying.left {s t : ByteArray} {taken : List (List UInt8)} {k f : Nat} (h : Trying s taken k f t) : ∃ g, f = g + 1 ∧ k ≤ taken.length + 2 := by
  have := cand_few (l := L s) (taken := taken) (m := k - 2) (fun j h1 h2 => h.behind j h1 (by omega))
  have := h.sum
  exact ⟨f - 1, by omega, by omega⟩
theorem Trying.next {s t t' : ByteArray} {taken : List (List UInt8)} {k f : Nat} (h : Trying s taken k (f + 1) t) (hc : Z2 (L t) taken = true) (ht : L t' = ZA (L s) k) (hz : t'.size ≤ s.size + 4) : Trying s taken (k + 1) f t' := by
  have h1 := h.one
  refine ⟨by omega, by have := h.sum; omega, hz, ?_, fun _ => by rw [Nat.add_sub_cancel]; exact ht, fun j hj hk => ?_⟩
  · rw [h.is, vG, if_pos hc, ht]
  ·
   rcases (by omega : j + 1 < k ∨ j = k - 1) with a | a
   · exact h.behind j hj a
   · subst a
     rw [← h.cand (by omega)]; exact hc
theorem Trying.done {s t : ByteArray} {taken : List (List UInt8)} {k f : Nat} (h : Trying s taken k (f + 1) t) (hc : Z2 (L t) taken = false) : L t = freshS (L s) taken := by
  rw [h.is, vG, if_neg (by rw [hc]; simp)]
end Go.Proofs.YthjaepmfkgejkaaGreatDoor
