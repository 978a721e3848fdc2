/-
  HunkLines' walk: the law returns true. Condition: the library's variable MaxLen holds a number.
-/
import Derived.Test.YtfjmbcljohobeaaDoorAwake23
namespace Go.Proofs.YtfjmbcljohobeaaDoor.hunkLines
open Go.RowKit
set_option linter.unusedVariables false
set_option linter.unusedSimpArgs false

set_option maxHeartbeats 8000000 in
set_option maxRecDepth 100000 in
theorem walk (s : ByteArray) (w : World) (hs : s.size ≤ maxLen) (hg : Glob w) :
    Calls Tryd.prog 9 #[.string s] w fun e w' => e = .returned (.bool true) ∧ Below w.heap.size w w' := by
  unfold maxLen at hs
  by_cases hbig : 3000 < s.size
  · go_enter Tryd.func9, Tryd.ntmps9
    go_wp2_with fail
    go_ret
    exact ⟨rfl, Below.refl _ _⟩
  have hsp := split_any s w (by omega) hg
  have HSP := Lib.hid hsp; have HG := Lib.hid hg
  clear hsp hg
  go_enter Tryd.func9, Tryd.ntmps9
  go_upto_region 6 with (go_at_call 28; refine HSP.out.mono ?_; rintro e w1 ⟨hb1, A, c, ls, rfl, hls, hsl⟩)
  have hcnt : ls.length ≤ 3000 := by
    have h1 := congrArg List.length hls
    have h2 := linesS_count (L s)
    rw [List.length_map] at h1
    rw [L_length] at h2
    omega
  have HB1 := Lib.hid hb1; have HLS := Lib.hid hls; have HSL := Lib.hid hsl
  clear hb1 hls hsl
  go_loopw [4, 5] (fun t4 t5 wr => ∃ (i : Nat) (all : ByteArray), i ≤ ls.length ∧ t5 = .int .i64 ((i : Nat) : Int) ∧ t4 = .string all ∧ Hid (L all = ((ls.map L).take i).flatten) ∧ Below w1.heap.size w1 wr) (fun _ t5 _ => ls.length - (intOf t5).toNat)
  case atStart => exact ⟨0, ⟨#[]⟩, Nat.zero_le _, rfl, rfl, Lib.hid (by simp), Below.refl _ _⟩
  case round =>
    obtain ⟨i, all, hi, rfl, rfl, HA, hbr⟩ := hrel
    by_cases hlt : i < ls.length
    · obtain ⟨b, off, rfl, hbl, hcl⟩ := (HSL.out.keep hbr).2 (by omega)
      have i0 : (0 : Int) ≤ (i : Int) := by omega
      have i1 : (i : Int) < (ls.length : Int) := by omega
      have hc0 := hcl i (.string ls[i]) (by simp [strs, hlt])
      have HCW := Lib.hid (show ∀ u, Gr wr u → u.cell? ⟨b, off + i, none⟩ = some (.string ls[i]) from fun u hu => (hu.below.cell (p := ⟨b, off + i, none⟩) (Nat.lt_of_lt_of_le hbl hbr.size)).trans hc0)
      have hmem : L ls[i] ∈ linesS (L s) := by rw [← HLS.out]; exact List.mem_map_of_mem (List.getElem_mem hlt)
      have hget : (linesS (L s))[i]? = some (L ls[i]) := by rw [← HLS.out, List.getElem?_map, List.getElem?_eq_getElem hlt]; rfl
      have hln : (linesS (L s)).length = ls.length := by rw [← HLS.out, List.length_map]
      have HTK := Lib.hid (show (ls.map L).take (i + 1) = (ls.map L).take i ++ [L ls[i]] by rw [List.take_succ_eq_append_getElem (by simpa using hlt), List.getElem_map])
      have hne := linesS_mem_ne (L s) _ hmem
      have hin := linesS_inner (L s) _ hmem
      have hen := linesS_ends (L s) i
      rw [hln] at hen
      have hsz := linesS_size hmem
      rw [L_length, L_length] at hsz
      have halls : all.size ≤ s.size := by
        have h1 := congrArg List.length HA.out
        have h2 := linesS_join (L s)
        rw [← HLS.out, ← List.take_append_drop i (ls.map L), List.flatten_append] at h2
        have h3 := congrArg List.length h2
        rw [List.length_append, L_length] at h3
        rw [L_length] at h1
        omega
      have HNE := Lib.hid hne; have HIN := Lib.hid hin; have HEN := Lib.hid (fun h => hen h _ hget); have HBR := Lib.hid hbr
      clear hcl hc0 hmem hget hln hne hin hen hbr
      generalize ls[i] = l at *
      have hl1 : 1 ≤ l.size := by
        rcases Nat.eq_zero_or_pos l.size with h | h
        · rw [← L_length] at h; exact absurd (List.length_eq_zero_iff.1 h) HNE.out
        · exact h
      have z1 : ¬ 9223372036854775807 < all.size + l.size := by omega
      have cw := HCW.out wr (Gr.refl _)
      go_upto_region 9 with fail
      obtain ⟨m, hm⟩ : ∃ m, l.size = m + 1 := ⟨l.size - 1, by omega⟩
      have em : IntKind.i64.wrap ((l.size : Int) - 1) = (m : Int) := by rw [IntWalk.i64_in _ (by omega)]; omega
      have HM := Lib.hid hm
      clear hm z1
      go_wp2_with fail
      go_loop [6] (fun t6 => ∃ k : Nat, k ≤ l.size ∧ t6 = .int .i64 ((k : Nat) : Int)) (fun t6 => l.size - (intOf t6).toNat)
      case atStart => exact ⟨0, Nat.zero_le _, rfl⟩
      case round =>
        obtain ⟨k, hk, rfl⟩ := hrel
        by_cases hkl : k < l.size
        · have k0 : (0 : Int) ≤ (k : Int) := by omega
          have k1 : (k : Int) < (l.size : Int) := by omega
          by_cases h10 : (l[k]'hkl).toNat = 10
          · have hbt : (((l[k]'hkl).toNat : Int) == 10) = true := by rw [h10]; rfl
            have hke : k = m := by
              have h1 := HIN.out k (by rw [B_L l k hkl]; congr 1; exact UInt8.toNat_inj.1 h10)
              rw [L_length] at h1
              have := HM.out
              omega
            have d1 : ¬ (k : Int) < (m : Int) := by omega
            have d2 : decide (k < m) = false := by rw [decide_eq_false_iff_not]; omega
            clear h10 hke
            go_wp2_with fail
            go_round
            case rel => exact ⟨k + 1, by omega, by go_num⟩
            case measure => simp [intOf]; omega
          · have hbt : (((l[k]'hkl).toNat : Int) == 10) = false := by rw [beq_eq_false_iff_ne]; omega
            clear h10
            go_wp2_with fail
            go_round
            case rel => exact ⟨k + 1, by omega, by go_num⟩
            case measure => simp [intOf]; omega
        · have hmz := HM.out
          have hml : m < l.size := by omega
          have k1 : ¬ (k : Int) < (l.size : Int) := by omega
          go_upto_region 14 with fail
          clear k1 hk hkl hmz
          have cq : ∀ n : Wg wr, n.val.cell? ⟨b, off + i, none⟩ = some (.string l) := fun n => HCW.out n.val n.2
          have lz : ((l.size : Int) == 0) = false := by rw [beq_eq_false_iff_ne]; omega
          have m0 : (0 : Int) ≤ (m : Int) := by omega
          have m1 : (m : Int) < (l.size : Int) := by omega
          by_cases h10 : (l[m]'hml).toNat = 10
          · have hbt : (((l[m]'hml).toNat : Int) != 10) = false := by rw [h10]; rfl
            clear h10
            refine wp_region_wr (by kernel_rfl) (by kernel_rfl) ?_
            repeat (first
              | go_big_quiet_skip
              | (go_big_quiet_want
                 first
                   | (go_big_quiet_op
                      first
                        | go_big_quiet_on
                        | go_big_quiet_call (first | (fail)))))
            refine wpQuiet_nil ?_
            rintro w' ⟨kk, rfl⟩
            have hkk := kk.2
            generalize kk.val = w11 at *
            go_wp2_with fail
            go_roundw
            case rel => exact ⟨i + 1, all ++ l, by omega, by go_num, rfl, Lib.hid (by rw [L_app, HTK.out, List.flatten_append, HA.out]; simp), HBR.out.trans (hkk.below.mono HBR.out.size)⟩
            case measure => simp [intOf]; omega
          · have hbt : (((l[m]'hml).toNat : Int) != 10) = true := by rw [bne_iff_ne]; omega
            have hie : ¬ i + 1 < ls.length := fun h => by
              have h1 := HEN.out h
              rw [List.getLast?_eq_getElem?, L_length, HM.out, Nat.add_sub_cancel, B_L l m hml] at h1
              exact h10 (by rw [Option.some.inj h1]; rfl)
            have en : IntKind.i64.wrap ((ls.length : Int) - 1) = ((ls.length - 1 : Nat) : Int) := by rw [IntWalk.i64_in _ (by omega)]; omega
            have d1 : ¬ (i : Int) < ((ls.length - 1 : Nat) : Int) := by omega
            have d2 : decide (i < ls.length - 1) = false := by rw [decide_eq_false_iff_not]; omega
            clear h10 hie
            generalize ls.length - 1 = ln1 at *
            refine wp_region_wr (by kernel_rfl) (by kernel_rfl) ?_
            repeat (first
              | go_big_quiet_skip
              | (go_big_quiet_want
                 first
                   | (go_big_quiet_op
                      first
                        | go_big_quiet_on
                        | go_big_quiet_call (first | (fail)))))
            refine wpQuiet_nil ?_
            rintro w' ⟨kk, rfl⟩
            have hkk := kk.2
            generalize kk.val = w11 at *
            go_wp2_with fail
            go_roundw
            case rel => exact ⟨i + 1, all ++ l, by omega, by go_num, rfl, Lib.hid (by rw [L_app, HTK.out, List.flatten_append, HA.out]; simp), HBR.out.trans (hkk.below.mono HBR.out.size)⟩
            case measure => simp [intOf]; omega
    · have hie : i = ls.length := by omega
      have hfin : L all = L s := by
        have h := HA.out
        rw [hie, ← List.length_map (f := L), List.take_length, HLS.out, linesS_join] at h
        exact h
      obtain rfl : all = s := L_inj hfin
      have i1 : ¬ (i : Int) < (ls.length : Int) := by omega
      have hb : Below w.heap.size w wr := HB1.out.trans (hbr.mono HB1.out.size)
      have haw := awake23_any wr (HG.out.next hb)
      have HB := Lib.hid hb
      have tb : (all.toList == all.toList) = true := beq_self_eq_true _
      clear hie hfin hbr hb
      go_wp2_with (go_at_call 30; refine haw.mono ?_; rintro e w9 ⟨hb9, rfl⟩)
      go_ret
      exact ⟨rfl, HB.out.trans (hb9.mono HB.out.size)⟩
end Go.Proofs.YtfjmbcljohobeaaDoor.hunkLines
