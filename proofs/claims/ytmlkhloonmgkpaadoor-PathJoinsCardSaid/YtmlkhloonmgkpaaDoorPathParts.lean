/-
  What the program's Parts gives, and the reference's Texts. Conditions: the library's variable MaxLen holds a number; a text's length is an int's.
-/
import Derived.Test.YtmlkhloonmgkpaaDoorParts
import Derived.Test.YtmlkhloonmgkpaaDoorMem2
namespace Go.Proofs.YtmlkhloonmgkpaaDoor
open Go.RowKit
set_option linter.unusedVariables false

theorem size_enc {s : ByteArray} {k : Nat} (hk : k < s.size) (ho : okAt s k = true) : (Utf8.encode ((Utf8.decode s k).1 : Int)).size = (Utf8.decode s k).2 := by
  have h := congrArg List.length (enc_dec hk ho)
  rw [L_length, L_length] at h
  have h2 := (dec_in hk).1
  rw [h, ByteArray.size_extract]
  omega
theorem L_app' (a b : ByteArray) : L (a ++ b) = L a ++ L b := Go.Joins.data_append a b
theorem size_app' (a b : ByteArray) : (a ++ b).size = a.size + b.size := by
  have := congrArg List.length (L_app' a b)
  rw [List.length_append, L_length, L_length, L_length] at this
  exact this

/-- Read up to pos: the parts that are through, and the open one. -/
def Parting (s : ByteArray) (q : List ByteArray) (t : ByteArray) (pos : Nat) : Prop := okFrom s pos ∧ pieces (L s) = q.map L ++ glue (L t) (pieces ((L s).drop pos))
theorem Parting.slash {s : ByteArray} {q : List ByteArray} {t : ByteArray} {pos : Nat} (h : Parting s q t pos) (hp : pos < s.size) (hr : (Utf8.decode s pos).1 = 47) : Parting s (q ++ [t]) ⟨#[]⟩ (pos + (Utf8.decode s pos).2) := by
  obtain ⟨ho, hn⟩ := h.1.at_ hp
  obtain ⟨hb, hw⟩ := dec_is_slash hp ho hr
  refine ⟨hn, ?_⟩
  rw [h.2, drop_cons hp hb, hw]
  have h1 : pieces (47 :: (L s).drop (pos + 1)) = [] :: pieces ((L s).drop (pos + 1)) := by rw [pieces, if_pos rfl]
  rw [h1, show L (⟨#[]⟩ : ByteArray) = [] from rfl, glue_nil (pieces_ne _)]
  simp [glue]
theorem Parting.other {s : ByteArray} {q : List ByteArray} {t : ByteArray} {pos : Nat} (h : Parting s q t pos) (hp : pos < s.size) (hr : (Utf8.decode s pos).1 ≠ 47) : Parting s q (t ++ Utf8.encode ((Utf8.decode s pos).1 : Int)) (pos + (Utf8.decode s pos).2) := by
  obtain ⟨ho, hn⟩ := h.1.at_ hp
  refine ⟨hn, ?_⟩
  rw [h.2, drop_split (s := s) (f := pos) (k := pos + (Utf8.decode s pos).2) (by omega), pieces_glue (dec_slash hp ho hr), glue_glue, L_app', enc_dec hp ho]
theorem Parting.done {s : ByteArray} {q : List ByteArray} {t : ByteArray} {pos : Nat} (h : Parting s q t pos) (hp : s.size ≤ pos) : pieces (L s) = (q ++ [t]).map L := by
  rw [h.2, List.drop_eq_nil_of_le (by rw [L_length]; exact hp)]
  simp [pieces, glue]

set_option maxHeartbeats 2000000 in
set_option maxRecDepth 100000 in
theorem parts_any (s : ByteArray) (w : World) (hs : s.size ≤ maxLen) (hg : Glob w) : Calls Tryd.prog 31 #[.string s] w (StrsBack (partsS s) w) := by
  cases hp : pathB s
  · have HP := Lib.hid hp; clear hp
    go_enter Tryd.func31, Tryd.ntmps31
    go_wp2_with (go_at_call 30; refine (path_any s _ hs hg).mono ?_; rw [HP.out]; rintro e w1 ⟨hb1, rfl⟩)
    go_ret
    exact ⟨hb1, [], none, 0, by simp [partsS, HP.out], rfl, Sl.nil, by simp⟩
  · have HP := Lib.hid hp; clear hp
    have hz := path_size HP.out
    have hok : okFrom s 0 := path_text HP.out
    have HK := Lib.hid hok; clear hok
    go_enter Tryd.func31, Tryd.ntmps31
    go_wp2_with (go_at_call 30; refine (path_any s _ hs hg).mono ?_; rw [HP.out]; rintro e w1 ⟨hb1, rfl⟩)
    have hsz1 := hb1.size
    go_loopw [3, 4] (fun v p wr => ∃ (pos : Nat) (q : List ByteArray) (t : ByteArray), pos ≤ s.size ∧ t.size ≤ pos ∧ q.length ≤ pos ∧ p = .string t ∧ wr.heap[w1.heap.size]? = some (.stringIter s pos) ∧ wr.ownsRow w1.heap.size 9 1 v q.length (q.map Value.string) ∧ Below w.heap.size w wr ∧ Hid (Parting s q t pos)) (fun _ _ wr => s.size - wr.iterPos w1.heap.size)
    case atStart =>
      refine ⟨0, [], ⟨#[]⟩, by omega, by decide, by simp, rfl, by simpa using World.iter_heap w1 s 0, World.ownsRow_nil _ _ _ _, hb1.alloc hb1.size _, Lib.hid ⟨HK.out, ?_⟩⟩
      rw [show L (⟨#[]⟩ : ByteArray) = [] from rfl, glue_nil (pieces_ne _)]; simp
    case round =>
      obtain ⟨pos, q, t, hpos, htp, hqp, rfl, hit, hown, hbw, hP⟩ := hrel
      have hsz : w1.heap.size < wr.heap.size := (Array.getElem?_eq_some_iff.1 hit).1
      by_cases hlt : pos < s.size
      · have hnx : ∀ ty, (Instr.next (.pointer (some ⟨w1.heap.size, 0, none⟩)) true ty).run Tryd.prog wr = _ := fun ty => Lib.run_next_any_at wr w1.heap.size s pos ty hit hlt
        have hin := dec_in hlt
        have hrl := decode_le s pos
        obtain ⟨ho, _⟩ := hP.out.1.at_ hlt
        have hse := size_enc hlt ho
        clear ho
        have hit2 := Lib.iterAt_heap wr w1.heap.size s pos (pos + (Utf8.decode s pos).2) hit
        have hown2 := own_iterAt hown hit (pos + (Utf8.decode s pos).2)
        have hne := own_iter_ne hown hit
        have hbw2 := Lib.below_iterAt hbw (k := w1.heap.size) hsz1 s (pos + (Utf8.decode s pos).2)
        have hsz2 : w1.heap.size < (wr.iterAt w1.heap.size s (pos + (Utf8.decode s pos).2)).heap.size := by rw [Lib.iterAt_size]; omega
        by_cases h47 : (Utf8.decode s pos).1 = 47
        · have hP2 := hP.out.slash hlt h47
          have HP2 := Lib.hid hP2; clear hP2
          have h47' : (((Utf8.decode s pos).1 : Int) == 47) = true := by rw [h47]; rfl
          clear h47 hse
          have HIT := Lib.hid hit; clear hit
          have HIT2 := Lib.hid hit2; clear hit2
          have HNE := Lib.hid hne; clear hne
          generalize hW2 : wr.iterAt w1.heap.size s (pos + (Utf8.decode s pos).2) = W2 at *
          clear hW2
          go_wp2_with (at_builtin; refine wp_app1g rfl _ _ 53 rfl w1.heap.size 9 (.string ByteArray.empty) 16 Tryd.underlying53 info_str rfl _ _ _ rfl hown2 _ _ rfl rfl ?c1 ?c2 ?c3 ?_)
          case c1 => unfold maxLen; omega
          case c2 => omega
          case c3 => omega
          intro v' w3 hown3 hbel hoth
          have hb3 := hbel w.heap.size w hsz1 hbw2
          have hit3 : w3.heap[w1.heap.size]? = some (.stringIter s (pos + (Utf8.decode s pos).2)) := (hoth _ hsz2 HNE.out).trans HIT2.out
          have HIT3 := Lib.hid hit3
          clear hbel hoth hit3
          go_wp2_with fail
          go_roundw
          case rel =>
            refine ⟨pos + (Utf8.decode s pos).2, q ++ [t], ⟨#[]⟩, by omega, Nat.zero_le _, by simp; omega, rfl, HIT3.out, ?_, hb3, HP2⟩
            simpa using hown3
          case measure =>
            simp only [World.iterPos, HIT3.out, HIT.out]
            omega
        · have hP2 := hP.out.other hlt h47
          have HP2 := Lib.hid hP2; clear hP2
          have h47' : (((Utf8.decode s pos).1 : Int) == 47) = false := by simp; omega
          clear h47
          have HSE := Lib.hid hse
          have hse2 : (Utf8.encode ((Utf8.decode s pos).1 : Int)).size ≤ 4 := by omega
          clear hse
          have HIT := Lib.hid hit; clear hit
          have HIT2 := Lib.hid hit2; clear hit2
          generalize hW2 : wr.iterAt w1.heap.size s (pos + (Utf8.decode s pos).2) = W2 at *
          clear hW2
          generalize hE : Utf8.encode ((Utf8.decode s pos).1 : Int) = E at *
          go_wp2_with fail
          go_roundw
          case rel =>
            refine ⟨pos + (Utf8.decode s pos).2, q, t ++ E, by omega, ?_, by omega, rfl, HIT2.out, hown2, hbw2, HP2⟩
            rw [size_app', HSE.out]; omega
          case measure =>
            simp only [World.iterPos, HIT2.out, HIT.out]
            omega
      · have hnx : ∀ ty, (Instr.next (.pointer (some ⟨w1.heap.size, 0, none⟩)) true ty).run Tryd.prog wr = _ := fun ty => Lib.run_next_end_at wr w1.heap.size s pos ty hit hlt
        have hfin := hP.out.done (by omega)
        have HF := Lib.hid hfin; clear hfin
        clear hit
        go_wp2_with (at_builtin; refine wp_app1 rfl _ _ 53 rfl w1.heap.size 9 (.string ByteArray.empty) 16 Tryd.underlying53 info_str rfl _ _ _ rfl hown _ _ rfl rfl ?c1 ?c2 ?c3 ?_)
        case c1 => unfold maxLen; omega
        case c2 => omega
        case c3 => omega
        intro v' w3 hown3 hbel
        have hb3 := hbel w.heap.size w hsz1 hbw
        clear hbel
        go_wp2_with fail
        go_ret
        obtain ⟨A, c, hv⟩ := own_form hown3
        refine ⟨hb3, q ++ [t], A, c, ?_, ?_, ?_, fin_pieces HF.out (by omega)⟩
        · rw [← HF.out, partsS, HP.out]; rfl
        · rw [List.length_append, List.length_singleton, ← hv]; rfl
        · rw [hv] at hown3
          rw [List.length_append, List.length_singleton, List.map_append]
          exact Sl.of_own hown3
end Go.Proofs.YtmlkhloonmgkpaaDoor
