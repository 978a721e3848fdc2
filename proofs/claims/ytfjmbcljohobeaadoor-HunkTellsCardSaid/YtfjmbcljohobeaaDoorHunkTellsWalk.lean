/-
  HunkTells' walk: the law returns true. Condition: the library's variable MaxLen holds a number.
-/
import Derived.Test.YtfjmbcljohobeaaDoorAwake23
import Derived.Test.YtfjmbcljohobeaaDoorRefSame23
namespace Go.Proofs.YtfjmbcljohobeaaDoor.hunkTells
open Go.RowKit
set_option linter.unusedVariables false
set_option linter.unusedSimpArgs false

theorem len_cnt (H : List HunkD) : ∀ h ∈ H, h.2.2.length ≤ cntH H := by
  intro h hh
  obtain ⟨a, b, rfl⟩ := List.append_of_mem hh
  rw [cntH_app]
  show _ ≤ _ + (List.flatMap hunkLn (h :: b)).length
  rw [List.flatMap_cons, List.length_append]
  show _ ≤ _ + ((_ :: _ : List (List UInt8)).length + _)
  simp only [List.length_cons, List.length_map]
  omega
theorem num_cnt (H : List HunkD) : H.length ≤ cntH H := by
  unfold cntH
  induction H with
  | nil => simp
  | cons h H ih => simp only [List.flatMap_cons, List.length_append, List.length_cons, hunkLn]; omega
/-- What is told of any two rows of bytes; an error's number. -/
def tellS (a b : ByteArray) : List HunkD := if (isText a && isText b) = true then hunksL (L a) (L b) else []
def errS (a b : ByteArray) : Int := if (isText a && isText b) = true then 0 else 5
theorem tell_few (a b : ByteArray) (ha : a.size ≤ 1000) (hb : b.size ≤ 1000) (hs : List HkD) (h : hs.map hkOf = tellS a b) : hs.length ≤ 20000 ∧ ∀ k ∈ hs, k.2.2.2.length ≤ 16000 := by
  have hlm : hs.length = (tellS a b).length := by rw [← h, List.length_map]
  unfold tellS at h hlm
  split at hlm
  · rename_i ht
    rw [if_pos ht] at h
    have hc := cntH_hunks (L a) (L b)
    rw [L_length, L_length] at hc
    have := num_cnt (hunksL (L a) (L b))
    refine ⟨by omega, fun k hk => ?_⟩
    have h3 : hkOf k ∈ hunksL (L a) (L b) := by rw [← h]; exact List.mem_map_of_mem hk
    have h4 := len_cnt _ _ h3
    simp only [hkOf, List.length_map] at h4
    omega
  · have : hs = [] := List.length_eq_zero_iff.1 hlm
    subst this
    exact ⟨by simp, fun k hk => by cases hk⟩
theorem prog_any (a b : ByteArray) (w : World) (ha : a.size ≤ 1000) (hb : b.size ≤ 1000) (hg : Glob w) : Calls Tryd.prog 23 #[.string a, .string b] w fun e w' => Below w.heap.size w w' ∧ ∃ (A : Option Addr) (c : Nat) (hs : List HkD), e = .returned (.tuple #[.slice A hs.length c, .int .i64 (errS a b)]) ∧ hs.map hkOf = tellS a b ∧ HkR w' w.heap.size (.slice A hs.length c) hs :=
  (hunks_any a b w (by omega) (by omega) hg).mono fun e w' ⟨h1, h2⟩ => by
    unfold errS tellS
    rcases h2 with ⟨ht, v, hs, rfl, hm, hr⟩ | ⟨ht, rfl⟩
    · obtain ⟨A, c, rfl⟩ := own_shape23 hr.1
      rw [if_pos ht, if_pos ht]
      exact ⟨h1, A, c, hs, rfl, hm, hr⟩
    · rw [if_neg (by rw [ht]; decide), if_neg (by rw [ht]; decide)]
      exact ⟨h1, none, 0, [], rfl, rfl, World.ownsRow_nil _ _ _ _, fun h hh => by cases hh⟩
theorem ref_any (a b : ByteArray) (w : World) (ha : a.size ≤ 1000) (hb : b.size ≤ 1000) : Calls Tryd.prog 24 #[.string a, .string b] w fun e w' => Below w.heap.size w w' ∧ ∃ (A : Option Addr) (c : Nat) (hs : List HkD), e = .returned (.tuple #[.slice A hs.length c, .int .i64 (errS a b)]) ∧ hs.map hkOf = tellS a b ∧ HsC w' w.heap.size (.slice A hs.length c) hs :=
  (refHunks_any a b w (by omega) (by omega)).mono fun e w' ⟨h1, h2⟩ => by
    unfold errS tellS
    rcases h2 with ⟨ht, v, hs, rfl, hm, hr⟩ | ⟨ht, rfl⟩
    · obtain ⟨A, c, rfl⟩ := own_shape23 hr.1
      rw [if_pos ht, if_pos ht]
      exact ⟨h1, A, c, hs, rfl, hm, hr⟩
    · rw [if_neg (by rw [ht]; decide), if_neg (by rw [ht]; decide)]
      exact ⟨h1, none, 0, [], rfl, rfl, HsC.nil _ _⟩
set_option maxHeartbeats 8000000 in
set_option maxRecDepth 100000 in
theorem walk (a b : ByteArray) (w : World) (ha : a.size ≤ maxLen) (hb : b.size ≤ maxLen) (hg : Glob w) :
    Calls Tryd.prog 7 #[.string a, .string b] w fun e w' => e = .returned (.bool true) ∧ Below w.heap.size w w' := by
  unfold maxLen at ha hb
  by_cases h1 : 400 < a.size
  · go_enter Tryd.func7, Tryd.ntmps7
    go_wp2_with fail
    go_ret
    exact ⟨rfl, Below.refl _ _⟩
  by_cases h2 : 400 < b.size
  · go_enter Tryd.func7, Tryd.ntmps7
    go_wp2_with fail
    go_ret
    exact ⟨rfl, Below.refl _ _⟩
  have HH := Lib.hid (prog_any a b w (by omega) (by omega) hg); have HR := Lib.hid (fun u => ref_any a b u (by omega) (by omega)); have HG := Lib.hid hg
  have HF := Lib.hid (tell_few a b (by omega) (by omega))
  have HSP := Lib.hid (fun u (hu : Glob u) => split_any a u (by omega) hu); have HRS := Lib.hid (fun u => refSplit_any a u (by omega))
  obtain ⟨er, her⟩ : ∃ er, errS a b = er := ⟨_, rfl⟩
  rw [her] at HH HR
  have be : ((er : Int) == er) = true := beq_self_eq_true _
  clear hg her
  go_enter Tryd.func7, Tryd.ntmps7
  go_upto_region 5 with (first
    | (go_at_call 23; refine HH.out.mono ?_; rintro e w1 ⟨hb1, A, c, hs, rfl, hm, hr⟩
       have HB1 := Lib.hid hb1; have HM := Lib.hid hm; have HKR := Lib.hid hr
       clear hb1 hm hr)
    | (go_at_call 24; refine (HR.out w1).mono ?_; rintro e w2 ⟨hb2, A2, c2, hs2, rfl, hm2, hr2⟩
       have HB2 := Lib.hid (HB1.out.trans (hb2.mono HB1.out.size)); have HM2 := Lib.hid hm2; have HS2 := Lib.hid hr2
       have HKR2 := Lib.hid (show HkR w2 w.heap.size (.slice A hs.length c) hs from ⟨own_kept HKR.out.1 hb2, fun h hh => own_kept (HKR.out.2 h hh) hb2⟩)
       clear hb2 hm2 hr2 HKR))
  obtain ⟨hfn, hfl⟩ := HF.out hs HM.out
  obtain ⟨hfn2, _⟩ := HF.out hs2 HM2.out
  have HLN := Lib.hid hfl
  have HOF := Lib.hid (of_any hs A c w2 hfn (fun h hh => own_shape23 (HKR2.out.2 h hh)) (Sl.of_own HKR2.out.1))
  clear hfl HH HR HF HB1
  go_wp2_with (first
    | (go_at_call 26; refine HOF.out.mono ?_; rintro e w3 ⟨hb3, v3, rfl, ho3⟩
       obtain ⟨A3, c3, hv3⟩ := own_shape23 ho3
       subst hv3
       have HB3 := Lib.hid (HB2.out.trans (hb3.mono HB2.out.size))
       have hsa := same_any hs hs2 A3 A2 c3 c2 w3 hfn HLN.out (by rw [HM.out, HM2.out]) ⟨Sl.of_own ho3, fun h hh => by
         have hk := own_kept (HKR2.out.2 h hh) hb3
         obtain ⟨Al, cl, hl⟩ := own_shape23 hk
         rw [hl] at hk
         exact ⟨Al, cl, hl, Sl.of_own hk⟩⟩ ⟨Sl.of_own (own_kept HS2.out.1 hb3), fun h hh => by
         have hk := own_kept (HS2.out.2 h hh) hb3
         obtain ⟨Al, cl, hl⟩ := own_shape23 hk
         rw [hl] at hk
         exact ⟨Al, cl, hl, Sl.of_own hk⟩⟩
       have HSA := Lib.hid hsa
       clear hb3 ho3 hsa HOF)
    | (go_at_call 25; refine HSA.out.mono ?_; rintro e w4 ⟨hb4, rfl⟩
       have HB4 := Lib.hid (HB3.out.trans (hb4.mono HB3.out.size))
       clear hb4 HSA)
    | (go_at_call 28; refine (HSP.out w4 (HG.out.next HB4.out)).mono ?_; rintro e w5 ⟨hb5, A5, c5, ls, rfl, hls, sl5⟩
       have HB5 := Lib.hid (HB4.out.trans (hb5.mono HB4.out.size)); have HLS := Lib.hid hls; have HSL5 := Lib.hid sl5
       clear hb5 hls sl5 HSP)
    | (go_at_call 29; refine (HRS.out w5).mono ?_; rintro e w6 ⟨hb6, v6, ls6, rfl, hls6, ho6⟩
       obtain ⟨A6, c6, hv6⟩ := own_shape23 ho6
       subst hv6
       have HB6 := Lib.hid (HB5.out.trans (hb6.mono HB5.out.size))
       have hln : ls.length ≤ 400 := by
         have h1 := congrArg List.length HLS.out
         have h2 := linesS_count (L a)
         rw [List.length_map] at h1
         rw [L_length] at h2
         omega
       have htx := texts_any ls ls6 A5 A6 c5 c6 w6 ((HSL5.out.keep hb6).more hb6.size) (Sl.of_own ho6) (by omega)
       rw [decide_eq_true (show ls.map L = ls6.map L by rw [HLS.out, hls6])] at htx
       have HTX := Lib.hid htx
       clear hb6 hls6 ho6 htx HRS hln)
    | (go_at_call 27; refine HTX.out.mono ?_; rintro e w7 ⟨hb7, rfl⟩
       have HB7 := Lib.hid (HB6.out.trans (hb7.mono HB6.out.size))
       have haw := awake23_any w7 (HG.out.next HB7.out)
       have HAW := Lib.hid haw
       clear hb7 haw HTX)
    | (go_at_call 30; refine HAW.out.mono ?_; rintro e w9 ⟨hb9, rfl⟩))
  go_ret
  exact ⟨rfl, HB7.out.trans (hb9.mono HB7.out.size)⟩
end Go.Proofs.YtfjmbcljohobeaaDoor.hunkTells
