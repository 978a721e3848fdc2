/-
  The chapter's examples of layer 23 hold (awake). Condition: the library's variable MaxLen holds a number.
-/
import Derived.Test.YthjaepmfkgejkaaDoorLines23Walk
import Derived.Test.YthjaepmfkgejkaaDoorTexts23
namespace Go.Proofs.YthjaepmfkgejkaaDoor
open Go.RowKit Go.Maps Go.Shelf
set_option linter.unusedVariables false
set_option linter.unusedSimpArgs false

theorem moves_a : movesT (linesS [97, 10, 98, 10]) (linesS [97, 10, 99, 10]) = [1, 2, 3] := by
  have h1 : nosG (linesS [97, 10, 98, 10] ++ linesS [97, 10, 99, 10]) (linesS [97, 10, 98, 10]) = [0, 1] := by decide +kernel
  have h2 : nosG (linesS [97, 10, 98, 10] ++ linesS [97, 10, 99, 10]) (linesS [97, 10, 99, 10]) = [0, 3] := by decide +kernel
  unfold movesT
  rw [h1, h2]
  simp [movesS, costL]
theorem hunks_a : hunksL [97, 10, 98, 10] [97, 10, 99, 10] = [(0, 0, [[32, 97, 10], [45, 98, 10], [43, 99, 10]])] := by
  unfold hunksL hunksX
  rw [moves_a]
  decide +kernel
theorem moves_b : movesT (linesS []) (linesS [104, 105]) = [3] := by
  have h1 : nosG (linesS [] ++ linesS [104, 105]) (linesS []) = [] := by decide +kernel
  have h2 : nosG (linesS [] ++ linesS [104, 105]) (linesS [104, 105]) = [0] := by decide +kernel
  unfold movesT
  rw [h1, h2]
  simp [movesS]
theorem hunks_b : hunksL [] [104, 105] = [(0, 0, [[43, 104, 105]])] := by
  unfold hunksL hunksX
  rw [moves_b]
  decide +kernel
def fX : FileD := (⟨#[120]⟩, ⟨#[104, 105]⟩)
theorem paths_x : pathsP [] [fX] = [[120]] := by
  have h : sortS (([] ++ [fX] : List FileD).map fun f => L f.1) = [[120]] := by
    show List.mergeSort [[120]] _ = _
    rw [List.mergeSort_singleton]
  unfold pathsP
  rw [h]
  decide +kernel
theorem told_x : told1 [] [fX] ⟨#[120]⟩ = some [[102, 105, 108, 101, 32, 120, 32, 97, 100, 100, 101, 100], [64, 32, 48, 32, 48], [43, 104, 105, 92]] := by
  have h1 : bytesOf [] ⟨#[120]⟩ = ⟨#[]⟩ := rfl
  have h2 : bytesOf [fX] ⟨#[120]⟩ = ⟨#[104, 105]⟩ := by decide +kernel
  have h3 : sameF [] [fX] ⟨#[120]⟩ = false := by decide +kernel
  have h4 : (isText ⟨#[]⟩ && isText ⟨#[104, 105]⟩) = true := by decide +kernel
  have h5 : headS [] [fX] ⟨#[120]⟩ = [102, 105, 108, 101, 32, 120, 32, 97, 100, 100, 101, 100] := by decide +kernel
  have h6 : hunksL (L ⟨#[]⟩) (L ⟨#[104, 105]⟩) = [(0, 0, [[43, 104, 105]])] := hunks_b
  unfold told1
  rw [if_neg (by rw [h3]; decide), h1, h2, if_pos h4, h5, h6]
  simp only [List.flatMap_cons, List.flatMap_nil, List.append_nil, hunkLn, Lib.decDigits_one (show 0 < 10 by decide)]
  decide +kernel
theorem lines_x : linesL [] [fX] (pathsP [] [fX]) = some [[102, 105, 108, 101, 32, 120, 32, 97, 100, 100, 101, 100], [64, 32, 48, 32, 48], [43, 104, 105, 92]] := by
  rw [paths_x]
  show (told1 [] [fX] ⟨#[120]⟩).bind _ = _
  rw [told_x]
  rfl
theorem itoa_few (w : World) : ItoaAt 2 w := fun k u hk _ => (Tryd.strconv_Itoa_small k (by omega) u).mono fun e u' ⟨h1, h2⟩ => ⟨h1, by rw [h2]; exact Gr.refl _⟩
def sA1 : List ByteArray := [⟨#[32, 97, 10]⟩, ⟨#[45, 98, 10]⟩, ⟨#[43, 99, 10]⟩]
def sB1 : List ByteArray := [⟨#[102, 105, 108, 101, 32, 120, 32, 97, 100, 100, 101, 100]⟩, ⟨#[64, 32, 48, 32, 48]⟩, ⟨#[43, 104, 105, 92]⟩]
set_option maxHeartbeats 4000000 in
set_option maxRecDepth 100000 in
theorem awake23_any (w : World) (hg : Glob w) : Calls Tryd.prog 20 #[] w fun e w' => Below w.heap.size w w' ∧ e = .returned (.bool true) := by
  have hh := hunks_any ⟨#[97, 10, 98, 10]⟩ ⟨#[97, 10, 99, 10]⟩ w (by decide) (by decide) hg
  have hyes : Calls Tryd.prog 40 #[.string ⟨#[97, 10, 98, 10]⟩, .string ⟨#[97, 10, 99, 10]⟩] w fun e w' => Below w.heap.size w w' ∧ ∃ X c lv ls, e = .returned (.tuple #[.slice (some ⟨X, 0, none⟩) 1 c, .int .i64 0]) ∧ ls.map L = [[32, 97, 10], [45, 98, 10], [43, 99, 10]] ∧ HkR w' w.heap.size (.slice (some ⟨X, 0, none⟩) 1 c) [((0 : Nat), (0 : Nat), lv, ls)] := hh.mono fun e w' ⟨h1, h2⟩ => by
    rcases h2 with ⟨_, v, hs, rfl, hm, hr⟩ | ⟨h, _⟩
    · have hm' : hs.map hkOf = [(0, 0, [[32, 97, 10], [45, 98, 10], [43, 99, 10]])] := hm.trans hunks_a
      obtain ⟨⟨f, t, lv, ls⟩, rfl, hk⟩ := List.map_eq_singleton_iff.1 hm'
      simp only [hkOf, Prod.mk.injEq] at hk
      obtain ⟨rfl, rfl, hls⟩ := hk
      obtain ⟨A, c, rfl⟩ := own_shape23 hr.1
      rcases id hr.1.2 with ⟨h, h0⟩ | ⟨g, cap, cur, h, _⟩
      · simp at h0
      · have hA : A = some ⟨g, 0, none⟩ := by injection h
        subst hA
        exact ⟨h1, g, c, lv, ls, rfl, hls, hr⟩
    · exact absurd h (by decide +kernel)
  have HY := Lib.hid hyes; have HG := Lib.hid hg
  clear hh hyes
  go_enter Tryd.func20, Tryd.ntmps20
  go_upto_region 2 with (go_at_call 40; refine HY.out.mono ?_; rintro e w1 ⟨hb1, X, c, lv, ls, rfl, hls, hr⟩)
  have hal : Below w1.heap.size w1 (w1.alloc (.cells #[.string ⟨#[120]⟩, .string ⟨#[104, 105]⟩] 55)) := (Below.refl _ _).alloc (Nat.le_refl _) _
  have hbx : (w1.alloc (.cells #[.string ⟨#[120]⟩, .string ⟨#[104, 105]⟩] 55)).heap[w1.heap.size]? = some (.cells #[.string ⟨#[120]⟩, .string ⟨#[104, 105]⟩] 55 (0, 0)) := heap_alloc_new _ _
  have hsz : w1.heap.size < (w1.alloc (.cells #[.string ⟨#[120]⟩, .string ⟨#[104, 105]⟩] 55)).heap.size := by simp
  have hslb : Sl (w1.alloc (.cells #[.string ⟨#[120]⟩, .string ⟨#[104, 105]⟩] 55)) (w1.alloc (.cells #[.string ⟨#[120]⟩, .string ⟨#[104, 105]⟩] 55)).heap.size (some ⟨w1.heap.size, 0, none⟩) [fX].length 2 (cells2 [fX]) :=
    ⟨rfl, fun _ => ⟨w1.heap.size, 0, rfl, hsz, fun j u hj => by rw [Nat.zero_add]; exact (cells_box hbx j).trans (by simpa [cells2, fX] using hj)⟩⟩
  have hli := lines_any [] [fX] 2 none (some ⟨w1.heap.size, 0, none⟩) 0 1 (w1.alloc (.cells #[.string ⟨#[120]⟩, .string ⟨#[104, 105]⟩] 55)) (by simp) (by simp) (by simp) (by intro f hf; simp at hf; subst hf; exact ⟨by decide, by decide⟩) (by decide) Sl.nil hslb (HG.out.next (hb1.trans (hal.mono hb1.size))) (fun u _ => itoa_few u)
  have hlyes : Calls Tryd.prog 17 #[.slice none 0 0, .slice (some ⟨w1.heap.size, 0, none⟩) 1 1] (w1.alloc (.cells #[.string ⟨#[120]⟩, .string ⟨#[104, 105]⟩] 55)) fun e w' => Below (w1.alloc (.cells #[.string ⟨#[120]⟩, .string ⟨#[104, 105]⟩] 55)).heap.size (w1.alloc (.cells #[.string ⟨#[120]⟩, .string ⟨#[104, 105]⟩] 55)) w' ∧ ∃ A c xs, e = .returned (.tuple #[.slice A xs.length c, .int .i64 0]) ∧ xs.map L = [[102, 105, 108, 101, 32, 120, 32, 97, 100, 100, 101, 100], [64, 32, 48, 32, 48], [43, 104, 105, 92]] ∧ Sl w' w'.heap.size A xs.length 1 (strs xs) := hli.mono fun e w' ⟨h1, h2⟩ => by
    rcases h2 with ⟨l, h, A, c, xs, rfl, hx, hs⟩ | ⟨h, _⟩
    · rw [lines_x] at h
      exact ⟨h1, A, c, xs, rfl, hx.trans (Option.some.inj h).symm, hs⟩
    · rw [lines_x] at h; cases h
  have HL := Lib.hid hlyes; have HB1 := Lib.hid hb1; have HR := Lib.hid hr; have HLS := Lib.hid hls; have HAL := Lib.hid hal
  clear hal hbx hsz hslb hli hlyes hb1 hr hls
  go_upto_region 3 with (first
    | (refine wp_buildSlice1 (by rfl) 53 _ rfl 55 Tryd.underlying53 (.agg #[.string ⟨#[]⟩, .string ⟨#[]⟩]) 2 32 fileInfo rfl (by decide) (by decide) [.string ⟨#[120]⟩, .string ⟨#[104, 105]⟩] rfl rfl ?_)
    | (go_at_call 17; refine HL.out.mono ?_; rintro e w2 ⟨hb2, A2, c2, xs, rfl, hx2, hs2⟩))
  have hxl : xs.length = 3 := by have := congrArg List.length hx2; simpa using this
  have hll : ls.length = 3 := by have := congrArg List.length HLS.out; simpa using this
  have hb12 : Below w1.heap.size w1 w2 := HAL.out.trans (hb2.mono HAL.out.size)
  have hro := own_kept HR.out.1 hb12
  have hlo := own_kept (HR.out.2 _ (List.mem_singleton.2 rfl)) hb12
  simp only at hlo
  obtain ⟨Al, cl, rfl⟩ := own_shape23 hlo
  have c2' : w2.cell? ⟨X, 2, none⟩ = some (.slice Al ls.length cl) := hro.cellAt 2 (by decide)
  have hsl := Sl.of_own hlo
  have HSL := Lib.hid hsl; have HS2 := Lib.hid hs2; have HX2 := Lib.hid hx2; have HB2 := Lib.hid (HB1.out.trans (hb12.mono HB1.out.size)); have HLL := Lib.hid hll; have HXL := Lib.hid hxl
  clear hb2 hb12 hro hlo hsl hs2 hx2 hll hxl
  have ht : ∀ (u : World) (A B : Option Addr) (c : Nat) (ss bs : List ByteArray) (cs : Array Value), Sl u u.heap.size A ss.length 1 (strs ss) → ss.length ≤ 3 → bs.length = 3 → cs.toList = strs bs → ss.map L = bs.map L →
      Calls Tryd.prog 19 #[.slice A ss.length c, .slice (some ⟨u.heap.size, 0, none⟩) 3 3] (u.alloc (.cells cs 9)) fun e w' => Below u.heap.size u w' ∧ e = .returned (.bool true) := by
    intro u A B c ss bs cs hs hn hb hc he
    have hal : Below u.heap.size u (u.alloc (.cells cs 9)) := (Below.refl _ _).alloc (Nat.le_refl _) _
    have hbx : (u.alloc (.cells cs 9)).heap[u.heap.size]? = some (.cells cs 9 (0, 0)) := heap_alloc_new _ _
    have h := texts_any ss bs A (some ⟨u.heap.size, 0, none⟩) c 3 (u.alloc (.cells cs 9)) ((hs.keep hal).more hal.size) ⟨by simp, fun _ => ⟨u.heap.size, 0, rfl, (Array.getElem?_eq_some_iff.1 hbx).1, fun j v hj => by rw [Nat.zero_add]; exact (cells_box hbx j).trans (by rw [hc]; exact hj)⟩⟩ (by omega)
    rw [hb] at h
    refine h.mono fun e w' ⟨h1, h2⟩ => ⟨hal.trans (h1.mono hal.size), ?_⟩
    rw [h2, decide_eq_true he]
  have ht1 := ht w2 Al none cl ls sA1 #[.string ⟨#[32, 97, 10]⟩, .string ⟨#[45, 98, 10]⟩, .string ⟨#[43, 99, 10]⟩] HSL.out (by rw [HLL.out]; decide) rfl rfl HLS.out
  have HT := Lib.hid ht; have HT1 := Lib.hid ht1
  clear ht ht1
  have k0 : (0 : Int) ≤ 0 := by decide
  go_wp2_with (first
    | (go_at_call 19; refine HT1.out.mono ?_; rintro e w4 ⟨hb4, rfl⟩
       have ht2 := HT.out w4 A2 none c2 xs sB1 #[.string ⟨#[102, 105, 108, 101, 32, 120, 32, 97, 100, 100, 101, 100]⟩, .string ⟨#[64, 32, 48, 32, 48]⟩, .string ⟨#[43, 104, 105, 92]⟩] ((HS2.out.keep hb4).more hb4.size) (by rw [HXL.out]; decide) rfl rfl HX2.out
       have HT2 := Lib.hid ht2
       have HB4 := Lib.hid (HB2.out.trans (hb4.mono HB2.out.size))
       clear hb4 ht2 HT1)
    | (go_at_call 19; refine HT2.out.mono ?_; rintro e w5 ⟨hb5, rfl⟩))
  go_ret
  exact ⟨HB4.out.trans (hb5.mono HB4.out.size), rfl⟩
end Go.Proofs.YthjaepmfkgejkaaDoor
