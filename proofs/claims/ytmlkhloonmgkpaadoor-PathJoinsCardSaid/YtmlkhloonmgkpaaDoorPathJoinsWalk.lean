/-
  PathJoins' walk: the law returns true. Condition: the library's variable MaxLen holds a number.
-/
import Derived.Test.YtmlkhloonmgkpaaDoorTextSpec
import Derived.Test.YtmlkhloonmgkpaaDoorPathParts
import Derived.Test.YtmlkhloonmgkpaaDoorAwake07
namespace Go.Proofs.YtmlkhloonmgkpaaDoor.pathJoins
open Go.RowKit
set_option linter.unusedVariables false

theorem sums {a b : Nat} (ha : a ≤ 1000) (hb : b ≤ 1000) : ¬ 9223372036854775807 < a + b := by omega

set_option maxHeartbeats 2000000 in
set_option maxRecDepth 100000 in
theorem walk (s : ByteArray) (w : World) (hs : s.size ≤ maxLen) (hg : Glob w) :
    Calls Tryd.prog 9 #[.string s] w fun e w' => e = .returned (.bool true) ∧ Below w.heap.size w w' := by
  have hs' := hs
  unfold maxLen at hs
  by_cases hbig : 100 < s.size
  · go_enter Tryd.func9, Tryd.ntmps9
    go_wp2_with fail
    refine (awake07_any _ hg).mono ?_
    rintro e w4 ⟨hb4, rfl⟩
    go_wp2_with fail
    go_ret
    exact ⟨rfl, hb4⟩
  cases hp : pathB s
  · have HP := Lib.hid hp; clear hp
    go_enter Tryd.func9, Tryd.ntmps9
    go_wp2_with fail
    refine (path_any s _ hs' hg).mono ?_
    rw [HP.out]
    rintro e w1 ⟨hb1, rfl⟩
    have g1 := hg.next hb1
    go_wp2_with fail
    refine (awake07_any _ g1).mono ?_
    rintro e w4 ⟨hb4, rfl⟩
    go_wp2_with fail
    go_ret
    exact ⟨rfl, hb1.trans (hb4.mono hb1.size)⟩
  · have hpl := (pathB_iff s).1 hp
    have HPL := Lib.hid hpl; clear hpl
    have HP := Lib.hid hp; clear hp
    go_enter Tryd.func9, Tryd.ntmps9
    go_wp2_with fail
    refine (path_any s _ hs' hg).mono ?_
    rw [HP.out]
    rintro e w1 ⟨hb1, rfl⟩
    have g1 := hg.next hb1
    go_wp2_with fail
    refine (parts_any s _ hs' g1).mono ?_
    rintro e w2 ⟨hb2, q, A, c, hq, rfl, hsl, hz⟩
    rw [show partsS s = pieces (L s) by rw [partsS, HP.out]; rfl] at hq
    have hq := hq.symm
    have hb12 := hb1.trans (hb2.mono hb1.size)
    have g2 := hg.next hb12
    clear hb1 hb2
    have hql : q.length ≤ 65 := by
      have h1 := pieces_count (L s)
      have h2 := congrArg List.length hq
      rw [L_length, List.length_map] at *
      have := path_size HP.out
      omega
    have hq1 : 1 ≤ q.length := by
      rcases Nat.eq_zero_or_pos q.length with e | e
      · rw [List.length_eq_zero_iff.1 e] at hq
        exact absurd hq (pieces_ne _)
      · exact e
    have HQ := Lib.hid hq; clear hq
    have HSL := Lib.hid hsl; clear hsl
    clear hz
    go_wp2_with fail
    go_loopw [4, 5] (fun t4 t5 wr => ∃ (i : Nat) (all : ByteArray), i ≤ q.length ∧ t5 = .int .i64 i ∧ t4 = .string all ∧ all.size ≤ 64 ∧ Below w2.heap.size w2 wr ∧ Hid (L all = joinB ((pieces (L s)).take i))) (fun _ t5 _ => q.length - (intOf t5).toNat)
    case atStart => exact ⟨0, ⟨#[]⟩, by omega, rfl, rfl, by decide, Below.refl _ _, Lib.hid rfl⟩
    case round =>
      obtain ⟨i, all, hi, rfl, rfl, haz, hbr, hA⟩ := hrel
      have gr := g2.next hbr
      by_cases hlt : i < q.length
      · obtain ⟨b, off, rfl, hbl, hcl⟩ := (HSL.out.keep hbr).2 (by omega)
        have hc := hcl i (.string q[i]) (by simp [hlt])
        have hpi : i < (pieces (L s)).length := by rw [HQ.out]; simpa using hlt
        have hqi : L q[i] = (pieces (L s))[i] := by simp [HQ.out]
        have hpart : PathL (L q[i]) := by rw [hqi]; exact HPL.out.part _ (List.getElem_mem hpi)
        obtain ⟨hh1, hh2⟩ := HPL.out.head (k := i + 1) (by omega)
        have hsn : (pieces (L s)).take (i + 1) = (pieces (L s)).take i ++ [L q[i]] := by rw [hqi]; exact List.take_succ_eq_append_getElem hpi
        have hpz : q[i].size ≤ 64 := by rw [← L_length]; exact hpart.2.1
        have hpb : pathB q[i] = true := (pathB_iff _).2 hpart
        have HPB := Lib.hid hpb; clear hpb hpart hqi
        have i0 : (0 : Int) ≤ (i : Int) := by omega
        have i1 : (i : Int) < (q.length : Int) := by omega
        have key : ∀ all' : ByteArray, L all' = joinB ((pieces (L s)).take (i + 1)) → all'.size ≤ 64 ∧ clashB (L all') (L s) = true ∧ pathB all' = true := by
          intro all' h
          rw [← h] at hh1 hh2
          refine ⟨by rw [← L_length]; exact hh1.2.1, ?_, (pathB_iff _).2 hh1⟩
          unfold clashB underB
          rcases hh2 with h2 | h2
          · simp [h2]
          · rw [List.isPrefixOf_iff_prefix.2 h2]; simp
        have KEY := Lib.hid key; clear key hh1 hh2
        have HSN := Lib.hid hsn; clear hsn hcl
        generalize hqe : q[i] = t at *
        have HQE := Lib.hid hqe; clear hqe hpi
        have s47 : s.size ≤ 140737488355328 := by omega
        have tm : t.size ≤ maxLen := by unfold maxLen; omega
        by_cases hi0 : i = 0
        · have hall : L all = [] := by rw [hA.out, hi0]; rfl
          have haz0 : all.size = 0 := by rw [← L_length, hall]; rfl
          obtain rfl : all = ⟨#[]⟩ := L_inj hall
          have hnew : L (⟨#[]⟩ ++ t : ByteArray) = joinB ((pieces (L s)).take (i + 1)) := by
            rw [L_app', HSN.out, joinB_snoc, if_pos (by rw [hi0]; rfl)]; rfl
          obtain ⟨n1, n2, n3⟩ := KEY.out _ hnew
          have HNEW := Lib.hid hnew; clear hnew hall haz0
          have ipos : ¬ (0 : Int) < (i : Int) := by omega
          clear hi0
          have N2 := Lib.hid n2; clear n2
          have N3 := Lib.hid n3; clear n3
          have z1 := sums (a := 0) (b := t.size) (by omega) (by omega)
          have n47 : (⟨#[]⟩ ++ t : ByteArray).size ≤ 140737488355328 := Nat.le_trans n1 (by decide)
          have nm : (⟨#[]⟩ ++ t : ByteArray).size ≤ maxLen := Nat.le_trans n1 (by decide)
          go_wp2_with fail
          refine (path_any t _ tm gr).mono ?_
          rw [HPB.out]
          rintro e w3 ⟨hb3, rfl⟩
          have hbr3 := hbr.trans (hb3.mono hbr.size)
          have gr3 := gr.next hb3
          go_wp2_with fail
          refine (clash_any _ s _ n47 s47).mono ?_
          rw [N2.out]
          rintro e w4 ⟨rfl, rfl⟩
          go_wp2_with fail
          refine (path_any _ _ nm gr3).mono ?_
          rw [N3.out]
          rintro e w5 ⟨hb5, rfl⟩
          have hbr5 := hbr3.trans (hb5.mono hbr3.size)
          go_wp2_with fail
          go_roundw
          case rel => exact ⟨i + 1, _, by omega, by go_num, rfl, n1, hbr5, HNEW⟩
          case measure => simp [intOf]; omega
        · have hnew : L (all ++ ⟨#[47]⟩ ++ t : ByteArray) = joinB ((pieces (L s)).take (i + 1)) := by
            have hne : (pieces (L s)).take i ≠ [] := by
              intro e
              have h2 := congrArg List.length e
              rw [List.length_take, HQ.out, List.length_map, List.length_nil] at h2
              omega
            rw [L_app', L_app', HSN.out, joinB_snoc, if_neg hne, hA.out]
          obtain ⟨n1, n2, n3⟩ := KEY.out _ hnew
          have HNEW := Lib.hid hnew; clear hnew
          have N2 := Lib.hid n2; clear n2
          have N3 := Lib.hid n3; clear n3
          have z1 := sums (a := all.size) (b := 1) (by omega) (by omega)
          have z2 := sums (a := all.size + 1) (b := t.size) (by omega) (by omega)
          have ipos : (0 : Int) < (i : Int) := by omega
          have n47 : (all ++ ⟨#[47]⟩ ++ t : ByteArray).size ≤ 140737488355328 := Nat.le_trans n1 (by decide)
          have nm : (all ++ ⟨#[47]⟩ ++ t : ByteArray).size ≤ maxLen := Nat.le_trans n1 (by decide)
          clear hi0
          go_wp2_with fail
          refine (path_any t _ tm gr).mono ?_
          rw [HPB.out]
          rintro e w3 ⟨hb3, rfl⟩
          have hbr3 := hbr.trans (hb3.mono hbr.size)
          have gr3 := gr.next hb3
          go_wp2_with fail
          refine (clash_any _ s _ n47 s47).mono ?_
          rw [N2.out]
          rintro e w4 ⟨rfl, rfl⟩
          go_wp2_with fail
          refine (path_any _ _ nm gr3).mono ?_
          rw [N3.out]
          rintro e w5 ⟨hb5, rfl⟩
          have hbr5 := hbr3.trans (hb5.mono hbr3.size)
          go_wp2_with fail
          go_roundw
          case rel => exact ⟨i + 1, _, by omega, by go_num, rfl, n1, hbr5, HNEW⟩
          case measure => simp [intOf]; omega
      · have hie : i = q.length := by omega
        have hfin : L all = L s := by
          rw [hA.out, List.take_of_length_le (by rw [HQ.out, List.length_map]; omega), join_pieces]
        obtain rfl : all = s := L_inj hfin
        clear hfin
        have q1 : (1 : Int) ≤ (q.length : Int) := by omega
        go_wp2_with fail
        refine (awake07_any _ gr).mono ?_
        rintro e w4 ⟨hb4, rfl⟩
        go_wp2_with fail
        go_ret
        exact ⟨rfl, (hb12.trans (hbr.mono hb12.size)).trans (hb4.mono (by have := hb12.size; have := hbr.size; omega))⟩
end Go.Proofs.YtmlkhloonmgkpaaDoor.pathJoins
