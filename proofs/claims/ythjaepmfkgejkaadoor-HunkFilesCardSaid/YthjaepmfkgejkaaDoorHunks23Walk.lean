/-
  What hunk.Hunks gives. Conditions: texts of at most 4000 bytes.
-/
import Derived.Test.YthjaepmfkgejkaaDoorHunkMem23
import Derived.Test.YthjaepmfkgejkaaDoorMoves23
import Derived.Test.YthjaepmfkgejkaaDoorShown23
namespace Go.Proofs.YthjaepmfkgejkaaDoor
open Go.RowKit Go.Maps Go.Shelf
set_option linter.unusedVariables false
set_option linter.unusedSimpArgs false

theorem lines_le : ∀ ls : List (List UInt8), (∀ l ∈ ls, l ≠ []) → ls.length ≤ ls.flatten.length
  | [], _ => Nat.le_refl _
  | l :: ls, h => by
    have h1 : 0 < l.length := List.length_pos_iff.2 (h l (by simp))
    have h2 := lines_le ls fun x hx => h x (by simp [hx])
    simp only [List.length_cons, List.flatten_cons, List.length_append]
    omega
theorem linesS_count (s : List UInt8) : (linesS s).length ≤ s.length := by
  have h := lines_le (linesS s) (linesS_mem_ne s)
  rwa [linesS_join] at h
theorem mem_le {l : List UInt8} : ∀ {ls : List (List UInt8)}, l ∈ ls → l.length ≤ ls.flatten.length
  | [], h => absurd h (by simp)
  | x :: ls, h => by
    simp only [List.flatten_cons, List.length_append]
    rcases List.mem_cons.1 h with rfl | q
    · omega
    · have := mem_le q; omega
theorem linesS_size {s l : List UInt8} (h : l ∈ linesS s) : l.length ≤ s.length := by
  have := mem_le h
  rwa [linesS_join] at this
/-- Hunks as a slice that was handed back. -/
def HkR (w : World) (base : Nat) (v : Value) (hs : List HkD) : Prop := w.ownsRow base 94 3 v hs.length (rowsV hkV hs) ∧ ∀ h ∈ hs, w.ownsRow base 9 1 h.2.2.1 h.2.2.2.length (strs h.2.2.2)
def HunksGive (a b : ByteArray) (w : World) (e : Ending) (w' : World) : Prop :=
  Below w.heap.size w w' ∧ ((isText a && isText b) = true ∧ (∃ v hs, e = .returned (.tuple #[v, .int .i64 0]) ∧ hs.map hkOf = hunksL (L a) (L b) ∧ HkR w' w.heap.size v hs) ∨ (isText a && isText b) = false ∧ e = .returned (.tuple #[.slice none 0 0, .int .i64 5]))
theorem check_yes (s : ByteArray) (w : World) (hs : s.size ≤ maxLen) (ht : isText s = true) : Calls Tryd.prog 64 #[.string s] w fun e w' => w = w' ∧ e = .returned (.tuple #[.int .i64 0, .int .i64 0]) :=
  (check_any s w hs).mono fun e w' ⟨h1, h2⟩ => by
    rcases h2 with ⟨_, h⟩ | ⟨h, _⟩
    · exact ⟨h1, h⟩
    · rw [ht] at h; cases h
theorem check_no (s : ByteArray) (w : World) (hs : s.size ≤ maxLen) (ht : isText s = false) : Calls Tryd.prog 64 #[.string s] w fun e w' => w = w' ∧ ∃ n : Int, e = .returned (.tuple #[.int .i64 n, .int .i64 5]) :=
  (check_any s w hs).mono fun e w' ⟨h1, h2⟩ => by
    rcases h2 with ⟨h, _⟩ | ⟨_, h⟩
    · rw [ht] at h; cases h
    · exact ⟨h1, h⟩
theorem nosOf_len (K l : List ByteArray) : (nosOf K l).length = l.length := by simp [nosOf]
theorem nosOf_ext (K : List ByteArray) (l l' : List ByteArray) (hl : ∀ s ∈ l, s ∈ K) : nosOf K l = nosOf (numsS K l') l := by
  obtain ⟨T, h⟩ := numsS_ext l' K
  rw [h]
  exact List.map_congr_left fun s hs => by rw [idx_app (hl s hs)]
theorem nums_keep (K l : List ByteArray) {s : ByteArray} (h : s ∈ K) : s ∈ numsS K l := by
  obtain ⟨T, e⟩ := numsS_ext l K
  rw [e]
  exact List.mem_append_left _ h
theorem mOf_nil : mOf [] = fun _ => none := funext fun s => by unfold mOf; simp
/-- What stands while the texts are looked at. -/
def ChkAt (a b : ByteArray) (w : World) (t : Value) (wr : World) : Prop := wr = w ∧ (t = .int .i64 0 ∨ (t = .int .i64 1 ∧ Hid (isText a = true)) ∨ (t = .int .i64 2 ∧ Hid (isText a = true) ∧ Hid (isText b = true)))
/-- What stands in the loop over the moves. -/
def LoopAt (mv : List Nat) (x y : List (List UInt8)) (base Bo n i j : Nat) (hs : List HkD) (wr : World) : Prop :=
  hunksTo (nearS mv) mv x y n = (i, j, hs.map hkOf) ∧ HkC wr base Bo hs ∧ (0 < n → nearS mv (n - 1) = true → ∃ pre h, hs = pre ++ [h] ∧ HkO wr base Bo pre h) ∧ hs.length ≤ n ∧ ∀ h ∈ hs, h.2.2.2.length ≤ n
theorem hk_add (pre : List HkD) (f t : Nat) (lv lv' : Value) (ls : List ByteArray) (s : ByteArray) : (pre ++ [(f, t, lv', ls ++ [s])]).map hkOf = addLine ((pre ++ [(f, t, lv, ls)]).map hkOf) (L s) := by
  rw [List.map_append, List.map_append, List.map_cons, List.map_nil, List.map_cons, List.map_nil]
  show pre.map hkOf ++ [(f, t, (ls ++ [s]).map L)] = addLine (pre.map hkOf ++ [(f, t, ls.map L)]) (L s)
  rw [addLine_snoc, List.map_append]
  rfl
theorem L_one (c : UInt8) (s : ByteArray) : L (⟨#[c]⟩ ++ s : ByteArray) = c :: L s := by rw [L_app]; rfl
theorem LoopAt.put {mv : List Nat} {x y : List (List UInt8)} {base Bo n i j i' j' : Nat} {hs pre : List HkD} {f t : Nat} {lv lv' : Value} {ls : List ByteArray} {s : ByteArray} {wr : World}
    (ho : (pre ++ [(f, t, lv, ls)]).map hkOf = opened (nearS mv) n i j (hs.map hkOf)) (hh : hunksTo (nearS mv) mv x y (n + 1) = (i', j', addLine (opened (nearS mv) n i j (hs.map hkOf)) (L s)))
    (hO : HkO wr base Bo pre (f, t, lv', ls ++ [s])) (h1 : pre.length ≤ n) (h2 : ∀ h ∈ pre, h.2.2.2.length ≤ n) (h3 : ls.length ≤ n) : LoopAt mv x y base Bo (n + 1) i' j' (pre ++ [(f, t, lv', ls ++ [s])]) wr := by
  refine ⟨by rw [hh, hk_add pre f t lv lv' ls s, ho], hO.closed, fun _ _ => ⟨pre, _, rfl, hO⟩, by simp; omega, fun h hm => ?_⟩
  rcases List.mem_append.1 hm with q | q
  · have := h2 h q; omega
  · rw [List.mem_singleton.1 q]; simp; omega
set_option maxHeartbeats 32000000 in
set_option maxRecDepth 100000 in
theorem hunks_any (a b : ByteArray) (w : World) (ha : a.size ≤ 4000) (hb : b.size ≤ 4000) (hg : Glob w) :
    Calls Tryd.prog 40 #[.string a, .string b] w (HunksGive a b w) := by
  have hmm := @run_makeMap Tryd.prog
  have ia : ∀ u, (Instr.index 130 (.agg #[.string a, .string b]) (.int .i64 0)).run Tryd.prog u = .ok (.string a) u := fun u => by kernel_rfl
  have ib : ∀ u, (Instr.index 130 (.agg #[.string a, .string b]) (.int .i64 1)).run Tryd.prog u = .ok (.string b) u := fun u => by kernel_rfl
  have HSPA := Lib.hid (split_any a w (by omega) hg)
  have HIA := Lib.hid ia; have HIB := Lib.hid ib; have HMM := Lib.hid hmm; have HG := Lib.hid hg
  clear ia ib hmm hg
  go_enter Tryd.func40, Tryd.ntmps40
  go_wp2_with fail
  go_step3
  go_wp2_with fail
  go_loopw [25] (fun t25 wr => ChkAt a b w t25 wr) (fun t25 _ => 2 - (intOf t25).toNat)
  case atStart => exact ⟨rfl, .inl rfl⟩
  case round =>
    obtain ⟨hwr, hrel⟩ := hrel
    subst hwr
    rcases hrel with rfl | ⟨rfl, HTA⟩ | ⟨rfl, HTA, HTB⟩
    · have iax := HIA.out
      cases hta : isText a
      · have hck := check_no a wr (by unfold maxLen; omega) hta
        have HTA := Lib.hid hta
        clear hta
        go_wp2_with (go_at_call 64; refine hck.mono ?_; rintro e w2 ⟨rfl, n, rfl⟩)
        try rw [Exit.noGoto_ret]
        go_ret2
        exact ⟨Below.refl _ _, .inr ⟨by rw [HTA.out]; rfl, rfl⟩⟩
      · have hck := check_yes a wr (by unfold maxLen; omega) hta
        have HTA := Lib.hid hta
        clear hta
        go_wp2_with (go_at_call 64; refine hck.mono ?_; rintro e w2 ⟨rfl, rfl⟩)
        go_roundw
        case rel => exact ⟨rfl, .inr (.inl ⟨rfl, HTA⟩)⟩
        case measure => simp [intOf]
    · have ibx := HIB.out
      cases htb : isText b
      · have hck := check_no b wr (by unfold maxLen; omega) htb
        have HTB := Lib.hid htb
        clear htb
        go_wp2_with (go_at_call 64; refine hck.mono ?_; rintro e w2 ⟨rfl, n, rfl⟩)
        try rw [Exit.noGoto_ret]
        go_ret2
        exact ⟨Below.refl _ _, .inr ⟨by rw [HTB.out, Bool.and_false], rfl⟩⟩
      · have hck := check_yes b wr (by unfold maxLen; omega) htb
        have HTB := Lib.hid htb
        clear htb
        go_wp2_with (go_at_call 64; refine hck.mono ?_; rintro e w2 ⟨rfl, rfl⟩)
        go_roundw
        case rel => exact ⟨rfl, .inr (.inr ⟨rfl, HTA, HTB⟩)⟩
        case measure => simp [intOf]
    · obtain ⟨w, hw⟩ : ∃ w : World, w = wr := ⟨_, rfl⟩
      subst hw
      go_upto_region 17 with (first
        | (go_at_call 68; refine HSPA.out.mono ?_; rintro e w1 ⟨hb1, A1, c1, xs, rfl, hx1, sx1⟩
           have HB1 := Lib.hid hb1; have HX := Lib.hid hx1; have HSX := Lib.hid sx1
           have hspb := split_any b w1 (by omega) (HG.out.next hb1)
           have HSPB := Lib.hid hspb
           clear hb1 hx1 sx1 hspb HSPA)
        | (go_at_call 68; refine HSPB.out.mono ?_; rintro e w2 ⟨hb2, A2, c2, ys, rfl, hy2, sy2⟩
           have HB2 := Lib.hid hb2; have HY := Lib.hid hy2; have HSY := Lib.hid sy2
           have hmm := HMM.out
           have hxl : xs.length ≤ 4000 := by
             have h1 := congrArg List.length HX.out
             have h2 := linesS_count (L a)
             rw [List.length_map] at h1
             rw [L_length] at h2
             omega
           have hyl : ys.length ≤ 4000 := by
             have h1 := congrArg List.length HY.out
             have h2 := linesS_count (L b)
             rw [List.length_map] at h1
             rw [L_length] at h2
             omega
           have hokx : ∀ s ∈ xs, StrOk s := fun s hs => by
             have h1 : L s ∈ linesS (L a) := by rw [← HX.out]; exact List.mem_map_of_mem hs
             have h2 := linesS_size h1
             rw [L_length, L_length] at h2
             unfold StrOk maxLen; omega
           have hoky : ∀ s ∈ ys, StrOk s := fun s hs => by
             have h1 : L s ∈ linesS (L b) := by rw [← HY.out]; exact List.mem_map_of_mem hs
             have h2 := linesS_size h1
             rw [L_length, L_length] at h2
             unfold StrOk maxLen; omega
           have HOKY := Lib.hid hoky
           have hal : Below w2.heap.size w2 (w2.alloc (.map #[] 0)) := (Below.refl _ _).alloc (Nat.le_refl _) _
           have hsz : w.heap.size ≤ w2.heap.size := Nat.le_trans HB1.out.size hb2.size
           have hmc := MapC.made w2 Tryd.prog 9 StrOk strL
           rw [← mOf_nil] at hmc
           have hn1 := numbers_any [] xs w2.heap.size w.heap.size A1 c1 (w2.alloc (.map #[] 0)) (by omega) (by simp) hokx (((HSX.out.keep hb2).more hb2.size).keep hal |>.more hal.size) hmc hsz
           have HN1 := Lib.hid hn1
           have HB3 : Hid (Below w.heap.size w (w2.alloc (.map #[] 0))) := (HB1.out.trans (hb2.mono HB1.out.size)).trans (hal.mono hsz)
           have HSX3 := Lib.hid (((HSX.out.keep hb2).more hb2.size).keep hal |>.more hal.size)
           have HSY3 := Lib.hid ((HSY.out.keep hal).more hal.size)
           have HSZ := Lib.hid hsz
           have HBK := Lib.hid hmc.block
           clear hb2 hy2 sy2 hal hmc hn1 hokx hoky hsz HSPB)
        | (go_at_call 70; refine HN1.out.mono ?_; rintro e w4 ⟨hbut4, hb4, hmc4, A4, c4, rfl, hown4⟩
           have HB4 : Hid (Below w.heap.size w w4) := HB3.out.trans hb4
           have hbk4 := hmc4.block
           have hmz : w2.heap.size < (w2.alloc (.map #[] 0)).heap.size := by simp
           have HSX4 := Lib.hid ((HSX3.out.but HBK.out hbut4).more hbut4.1)
           have HSY4 := Lib.hid ((HSY3.out.but HBK.out hbut4).more hbut4.1)
           have HSP4 := Lib.hid (Sl.of_own hown4)
           have hK1 : (numsS [] xs).length ≤ 100000 := by have := numsS_length [] xs; simp at this; omega
           have hn2 := numbers_any (numsS [] xs) ys w2.heap.size w.heap.size A2 c2 w4 (by omega) hK1 HOKY.out HSY4.out hmc4 HSZ.out
           have HN2 := Lib.hid hn2; have HBK4 := Lib.hid hbk4
           clear hbut4 hb4 hmc4 hown4 hbk4 hmz hK1 hn2 HN1)
        | (go_at_call 70; refine HN2.out.mono ?_; rintro e w5 ⟨hbut5, hb5, hmc5, A5, c5, rfl, hown5⟩
           have HB5 : Hid (Below w.heap.size w w5) := HB4.out.trans hb5
           have HSX5 := Lib.hid ((HSX4.out.but HBK4.out hbut5).more hbut5.1)
           have HSY5 := Lib.hid ((HSY4.out.but HBK4.out hbut5).more hbut5.1)
           have hsp5 := (HSP4.out.but HBK4.out hbut5).more hbut5.1
           have hsq5 := Sl.of_own hown5
           have e1 := nosOf_ext (numsS [] xs) xs ys (fun s hs => numsS_mem xs [] s hs)
           have hmo := moves_any (nosOf (numsS [] xs) xs) (nosOf (numsS (numsS [] xs) ys) ys) A4 A5 c4 c5 w5 (by rw [nosOf_len]; exact hsp5) (by rw [nosOf_len]; exact hsq5) (by rw [nosOf_len]; omega) (by rw [nosOf_len]; omega)
           rw [nosOf_len, nosOf_len] at hmo
           unfold MovesGive at hmo
           rw [e1, moves_nos (fun s hs => nums_keep _ _ (numsS_mem xs [] s hs)) (fun s hs => numsS_mem ys _ s hs), HX.out, HY.out] at hmo
           have HMO := Lib.hid hmo
           clear hbut5 hb5 hmc5 hown5 hsp5 hsq5 e1 hmo HN2)
        | (go_at_call 69; refine HMO.out.mono ?_; rintro e w6 ⟨hb6, A6, c6, rfl, sm6⟩
           obtain ⟨mv, hmv⟩ : ∃ mv, movesT (linesS (L a)) (linesS (L b)) = mv := ⟨_, rfl⟩
           rw [hmv] at sm6 ⊢
           have hmvl : mv.length ≤ 8000 := by
             rw [← hmv]
             have h1 := moves_length _ (nosG (linesS (L a) ++ linesS (L b)) (linesS (L a))) (nosG (linesS (L a) ++ linesS (L b)) (linesS (L b))) (Nat.le_refl _)
             simp only [nosG, List.length_map] at h1
             have h2 := congrArg List.length HX.out
             have h3 := congrArg List.length HY.out
             rw [List.length_map] at h2 h3
             show (movesS _ _).length ≤ 8000
             simp only [nosG]
             omega
           have HMV := Lib.hid hmv
           have HB6 : Hid (Below w.heap.size w w6) := HB5.out.trans (hb6.mono HB5.out.size)
           have hal : Below w6.heap.size w6 (w6.alloc (.cells #[.slice none 0 0] 90)) := (Below.refl _ _).alloc (Nat.le_refl _) _
           have HSX7 := Lib.hid ((((HSX5.out.keep hb6).more hb6.size).keep hal).more hal.size)
           have HSY7 := Lib.hid ((((HSY5.out.keep hb6).more hb6.size).keep hal).more hal.size)
           have HSM7 := Lib.hid ((sm6.keep hal).more hal.size)
           have HB7 : Hid (Below w.heap.size w (w6.alloc (.cells #[.slice none 0 0] 90))) := HB6.out.trans (hal.mono HB6.out.size)
           have hne := near_any mv A6 c6 (w6.alloc (.cells #[.slice none 0 0] 90)) (by omega) HSM7.out
           have HNE := Lib.hid hne
           have HBX := Lib.hid (show (w6.alloc (.cells #[.slice none 0 0] 90)).heap[w6.heap.size]? = some (.cells #[.slice none 0 0] 90 (0, 0)) from heap_alloc_new _ _)
           clear hmv hb6 hal sm6 hne HMO)
        | (go_at_call 71; refine HNE.out.mono ?_; rintro e w8 ⟨hb8, A8, c8, rfl, st8⟩
           have HB8 : Hid (Below w.heap.size w w8) := HB7.out.trans (hb8.mono HB7.out.size)
           have HSX8 := Lib.hid ((HSX7.out.keep hb8).more hb8.size)
           have HSY8 := Lib.hid ((HSY7.out.keep hb8).more hb8.size)
           have HSM8 := Lib.hid ((HSM7.out.keep hb8).more hb8.size)
           have HST8 := Lib.hid st8
           have HBX8 := Lib.hid ((hb8.block _ (by simp)).trans HBX.out)
           clear hb8 st8 HNE))


      obtain ⟨Bo, hBo⟩ : ∃ Bo, w6.heap.size = Bo := ⟨_, rfl⟩
      obtain ⟨base, hbase⟩ : ∃ base, w8.heap.size = base := ⟨_, rfl⟩
      rw [hBo] at HBX8 ⊢
      rw [hbase] at HSX8 HSY8 HSM8 HST8
      have HBO8 : Hid (w8.heap[Bo]? = some (.cells #[.slice none 0 0] 90 (0, 0))) := HBX8.out
      have HBS : Hid (w.heap.size ≤ base) := by have := HB8.out.size; show _ ≤ _; omega
      have HWZ := Lib.hid hbase
      have HBG : Hid (w.heap.size ≤ Bo) := by have := HB6.out.size; show _ ≤ _; omega
      have hC0 : HkC w8 base Bo [] := ⟨_, HBO8.out, World.ownsRow_nil _ _ _ _, fun _ => rfl, fun h hh => absurd hh (by simp)⟩
      have HC0 := Lib.hid hC0
      clear hBo hbase hC0
      go_step3
      go_wp2_with fail
      go_loopw [17, 18, 60] (fun t17 t18 t60 wr => ∃ n i j hs, n ≤ mv.length ∧ t60 = .int .i64 ((n : Nat) : Int) ∧ t17 = .int .i64 ((i : Nat) : Int) ∧ t18 = .int .i64 ((j : Nat) : Int) ∧ Hid (LoopAt mv (linesS (L a)) (linesS (L b)) base Bo n i j hs wr) ∧ Hid (Below w.heap.size w wr) ∧ Hid (ButBo base Bo w8 wr) ∧ Hid (base ≤ wr.heap.size)) (fun _ _ t60 _ => mv.length - (intOf t60).toNat)
      case atStart => exact ⟨0, 0, 0, [], Nat.zero_le _, rfl, rfl, rfl, Lib.hid ⟨rfl, HC0.out, fun h => absurd h (by omega), Nat.zero_le _, fun h hh => absurd hh (by simp)⟩, HB8, Lib.hid fun k _ _ => rfl, Lib.hid (Nat.le_of_eq HWZ.out.symm)⟩
      case round =>
        obtain ⟨n, i, j, hs, hn, rfl, rfl, rfl, HLA, HBL, HBW, HBZ⟩ := hrel
        by_cases hlt : n < mv.length
        · obtain ⟨bm, om, rfl, hbm, hcm⟩ := (HSM8.out.off HBO8.out (fun u hu A n c e => by obtain ⟨s, _, rfl⟩ := List.mem_map.1 hu; cases e) HBW.out).2 (by omega)
          obtain ⟨bt, ot, rfl, hbt, hct⟩ := (HST8.out.off HBO8.out (fun u hu A n c e => by obtain ⟨s, _, rfl⟩ := List.mem_map.1 hu; cases e) HBW.out).2 (by omega)
          have cm := hcm n (.int .u8 ((mv[n] : Nat) : Int)) (by simp [u8V, hlt])
          have ct := hct n (.bool (nearS mv n)) (boolsV_get _ _ _ hlt)
          have hgd : mv.getD n 0 = mv[n] := by rw [List.getD_eq_getElem?_getD, List.getElem?_eq_getElem hlt]; rfl
          have n0 : (0 : Int) ≤ (n : Int) := by omega
          have n1 : (n : Int) < (mv.length : Int) := by omega
          have hback := hunks_back (told_near mv) (show Way mv (linesS (L a)) (linesS (L b)) by rw [← HMV.out]; exact way_T _ _) n i j (hs.map hkOf) hn HLA.out.1
          obtain ⟨hpl, hil, hjl, _, _⟩ := hback
          have hwa := (show Way mv (linesS (L a)) (linesS (L b)) by rw [← HMV.out]; exact way_T _ _).1 n hlt
          rw [← hpl] at hwa
          have hxc := linesS_count (L a)
          have hyc := linesS_count (L b)
          rw [L_length] at hxc hyc
          have hi4 : i ≤ 4000 := by omega
          have hj4 : j ≤ 4000 := by omega
          have hxl : (linesS (L a)).length = xs.length := by rw [← HX.out, List.length_map]
          have hyl : (linesS (L b)).length = ys.length := by rw [← HY.out, List.length_map]
          have ei : IntKind.i64.wrap ((i : Int) + 1) = (i : Int) + 1 := IntWalk.i64_in _ (by omega)
          have ej : IntKind.i64.wrap ((j : Int) + 1) = (j : Int) + 1 := IntWalk.i64_in _ (by omega)
          obtain ⟨m, hm⟩ : ∃ m, mv[n] = m := ⟨_, rfl⟩
          rw [hm] at cm hgd
          have HGD := Lib.hid hgd; have HWA := Lib.hid hwa; have HXL := Lib.hid hxl; have HYL := Lib.hid hyl
          have HCT := Lib.hid (show ∀ q, q < mv.length → wr.cell? ⟨bt, ot + q, none⟩ = some (.bool (nearS mv q)) from fun q hq => hct q _ (boolsV_get _ _ _ hq))
          clear hcm hct hgd hwa hpl hil hjl hxc hyc hxl hyl hm hbm hbt
          cases htold : nearS mv n with
          | false =>
            rw [htold] at ct
            have HTO := Lib.hid htold
            clear htold
            go_wp2_with fail
            go_roundw
            case rel =>
              exact ⟨n + 1, i + 1, j + 1, hs, by omega, by go_num, by go_num, by go_num, Lib.hid ⟨hunksTo_skip HLA.out.1 HTO.out, HLA.out.2.1, fun _ q => (by rw [Nat.add_sub_cancel, HTO.out] at q; cases q), by have := HLA.out.2.2.2.1; omega, fun h hh => by have := HLA.out.2.2.2.2 h hh; omega⟩, HBL, HBW, HBZ⟩
            case measure => simp [intOf]; omega
          | true =>
            rw [htold] at ct
            have HTO := Lib.hid htold
            clear htold
            go_upto_region 22 with fail
            clear ct cm
            obtain ⟨cB, hcB⟩ : ∃ cB, decide (n = 0 ∨ nearS mv (n - 1) = false) = cB := ⟨_, rfl⟩
            have HCB := Lib.hid hcB
            clear hcB
            go_cut [83] from 74 to 83 (fun s83 wx => s83 = .bool cB ∧ wx = wr)
            case first =>
              by_cases hn0 : n = 0
              · have b0 : ((n : Int) == 0) = true := by rw [hn0]; rfl
                have hcb : cB = true := by rw [← HCB.out]; simp [hn0]
                have HCC := Lib.hid hcb
                clear hn0 hcb
                go_wp2_with fail
                go_meet
                case rel => exact ⟨by rw [HCC.out], rfl⟩
              · have b0 : ((n : Int) == 0) = false := by rw [beq_eq_false_iff_ne]; omega
                obtain ⟨p, hp⟩ : ∃ p, n = p + 1 := ⟨n - 1, by omega⟩
                have ep : IntKind.i64.wrap ((n : Int) - 1) = (p : Int) := by rw [IntWalk.i64_in _ (by omega)]; omega
                have ctp := HCT.out p (by omega)
                have p0 : (0 : Int) ≤ (p : Int) := by omega
                have p1 : (p : Int) < (mv.length : Int) := by omega
                have hcb : cB = !(nearS mv p) := by
                  rw [← HCB.out, show n - 1 = p by omega]
                  cases nearS mv p <;> simp [hn0]
                have HCC := Lib.hid hcb
                clear hn0 hp hcb
                obtain ⟨tp, htp⟩ : ∃ tp, nearS mv p = tp := ⟨_, rfl⟩
                rw [htp] at ctp HCC
                clear htp
                go_wp2_with fail
                go_meet
                case rel => exact ⟨by rw [HCC.out], rfl⟩
            case rest =>
              obtain ⟨rfl, hwc⟩ := hcut
              subst hwc
              go_upto_if 83 with fail
              go_cut [] from 84 to 89 (fun wx => ∃ pre f t lv ls, Hid ((pre ++ [(f, t, lv, ls)]).map hkOf = opened (nearS mv) n i j (hs.map hkOf)) ∧ Hid (HkO wx base Bo pre (f, t, lv, ls)) ∧ Hid (Below w.heap.size w wx) ∧ Hid (ButBo base Bo w8 wx) ∧ Hid (base ≤ wx.heap.size) ∧ pre.length ≤ n ∧ Hid (∀ h ∈ pre, h.2.2.2.length ≤ n) ∧ ls.length ≤ n)
              case first =>
                obtain ⟨v, hBv, hrv, hv0, hlv⟩ := HLA.out.2.1
                obtain ⟨Av, cv, rfl⟩ := own_shape23 hrv
                have c0 : wc.cell? ⟨Bo, 0, none⟩ = some (.slice Av hs.length cv) := cells_box hBv 0
                have HBV := Lib.hid hBv; have HRV := Lib.hid hrv; have HLV := Lib.hid hlv
                have hvB : (Value.slice Av hs.length cv).ownBlock ≠ some Bo := by
                  rcases hrv.2 with ⟨h, _⟩ | ⟨g, cap, cur, h, _, hh, _⟩
                  · rw [h]; simp [Value.ownBlock]
                  · rw [h]
                    intro e
                    have : g = Bo := by simpa [Value.ownBlock] using e
                    subst this
                    rw [hBv] at hh
                    injection hh with hh
                    injection hh with _ hh _
                    revert hh
                    decide
                have HVB := Lib.hid hvB
                have hsl : hs.length ≤ n := HLA.out.2.2.2.1
                clear hBv hrv hv0 hlv hvB
                cases cB with
                | true =>
                  have HOPN := Lib.hid (show opened (nearS mv) n i j (hs.map hkOf) = hs.map hkOf ++ [(i, j, [])] by unfold opened; rw [if_pos (of_decide_eq_true HCB.out)])
                  go_wp2_with (first
                    | (refine wp_buildSlice1 (by rfl) 90 _ rfl 94 Tryd.underlying90 (.agg #[.int .i64 0, .int .i64 0, .slice none 0 0]) 3 40 hunkInfo rfl (by decide) (by decide) [.int .i64 (i : Int), .int .i64 (j : Int), .slice none 0 0] rfl rfl ?_)
                    | (refine wp_appNg rfl _ _ 90 rfl base 94 (.agg #[.int .i64 0, .int .i64 0, .slice none 0 0]) 3 40 Tryd.underlying90 hunkInfo rfl (by decide) (.slice Av hs.length cv) hs.length (rowsV hkV hs) rfl HRV.out [.int .i64 (i : Int), .int .i64 (j : Int), .slice none 0 0] 94 rfl rfl (by intro u hu; simp only [List.mem_cons, List.not_mem_nil, or_false] at hu; rcases hu with rfl | rfl | rfl <;> rfl) (by unfold maxLen; omega) (by omega) HBZ.out ?_; intro v9 w9 ho9 hb9 hk9
                       obtain ⟨A9, c9, rfl⟩ := own_shape23 ho9
                       have hbel9 : Below base wc w9 := hb9 base wc (Nat.le_refl _) (Below.refl _ _)
                       have hB9 : w9.heap[Bo]? = _ := (hk9 Bo (Array.getElem?_eq_some_iff.1 HBV.out).1 HVB.out).trans HBV.out
                       have s9 : w9.cell? ⟨Bo, 0, none⟩ = some (.slice Av hs.length cv) := cells_box hB9 0
                       have f9 : w9.frozen? ⟨Bo, 0, none⟩ = false := frozen_of_row _ _ _ _ _ hB9
                       have hop9 := HkC.opened i j HBV.out HBZ.out HLV.out HRV.out ho9 hbel9 hk9
                       have HOP9 := Lib.hid hop9; have HBEL9 := Lib.hid hbel9
                       clear ho9 hb9 hk9 hbel9 hB9 hop9))
                  have HB10 : Hid (Below w.heap.size w (w9.setCell ⟨Bo, 0, none⟩ (.slice A9 (hs.length + 1) c9))) := (HBL.out.trans (HBEL9.out.mono HBS.out)).setCell HBG.out _
                  have HW10 : Hid (ButBo base Bo w8 (w9.setCell ⟨Bo, 0, none⟩ (.slice A9 (hs.length + 1) c9))) := fun k hk hne => (Below.heap_setCell _ _ _ _ hne).trans ((HBEL9.out.block k hk).trans (HBW.out k hk hne))
                  have HZ10 : Hid (base ≤ (w9.setCell ⟨Bo, 0, none⟩ (.slice A9 (hs.length + 1) c9)).heap.size) := by have h1 := HBEL9.out.size; have h2 := HBZ.out; show _ ≤ _; simp only [World.setCell, Array.size_modify]; omega
                  go_meet
                  case rel => exact ⟨hs, i, j, .slice none 0 0, [], Lib.hid (by rw [HOPN.out, List.map_append]; rfl), HOP9, HB10, HW10, HZ10, hsl, Lib.hid HLA.out.2.2.2.2, Nat.zero_le _⟩

                | false =>
                  have hno := of_decide_eq_false HCB.out
                  have hpos : 0 < n := by omega
                  have htp : nearS mv (n - 1) = true := by cases q : nearS mv (n - 1) with | true => rfl | false => exact absurd (.inr q) hno
                  obtain ⟨pre, ⟨f, t, lv, ls⟩, hpre, hO⟩ := HLA.out.2.2.1 hpos htp
                  have HOPN := Lib.hid (show (pre ++ [(f, t, lv, ls)]).map hkOf = opened (nearS mv) n i j (hs.map hkOf) by unfold opened; rw [if_neg hno, ← hpre])
                  have hp1 : pre.length ≤ n := by have := congrArg List.length hpre; simp at this; omega
                  have hp2 : ∀ h ∈ pre, h.2.2.2.length ≤ n := fun h hh => HLA.out.2.2.2.2 h (by rw [hpre]; exact List.mem_append_left _ hh)
                  have hp3 : ls.length ≤ n := HLA.out.2.2.2.2 (f, t, lv, ls) (by rw [hpre]; simp)
                  have HO := Lib.hid hO; have HP2 := Lib.hid hp2
                  clear htp hpre hO hp2 hno
                  go_wp2_with fail
                  go_meet
                  case rel => exact ⟨pre, f, t, lv, ls, HOPN, HO, HBL, HBW, HBZ, hp1, HP2, hp3⟩
              case rest =>
                obtain ⟨pre, f, t, lv, ls, HOP, HO, HBLC, HBW, HBZ, hpl, HPB, hls⟩ := hcut
                rcases HWA.out with ⟨hm, l, hlx, hly⟩ | ⟨hm, l, hlx⟩ | ⟨hm, l, hly⟩
                · have hmm : m = 1 := HGD.out.symm.trans hm
                  have b1 : ((m : Int) == 1) = true := by rw [hmm]; rfl
                  have hil := (List.getElem?_eq_some_iff.1 hlx).1
                  have hjl := (List.getElem?_eq_some_iff.1 hly).1
                  have HM := Lib.hid hm; have HLX := Lib.hid hlx
                  rw [HXL.out] at hil
                  rw [HYL.out] at hjl
                  clear hm hmm hlx hly
                  obtain ⟨bb, ob, rfl, hbb, hcb⟩ := (((HSX8.out).off HBO8.out (fun u hu A n c e => by obtain ⟨s, _, rfl⟩ := List.mem_map.1 hu; cases e) HBW.out)).2 (by omega)
                  have hidx : i < xs.length := by omega
                  have cx := hcb i (.string xs[i]) (by simp [strs, hidx])
                  have i0 : (0 : Int) ≤ (i : Int) := by omega
                  have i1 : (i : Int) < (xs.length : Int) := by omega
                  have hLn : L xs[i] = l := by
                    have h1 := HLX.out
                    rw [← HX.out, List.getElem?_map, List.getElem?_eq_getElem hidx] at h1
                    exact Option.some.inj h1
                  have hln : xs[i].size ≤ 4000 := by
                    have hm : L xs[i] ∈ linesS (L a) := by rw [← HX.out]; exact List.mem_map_of_mem (List.getElem_mem hidx)
                    have := linesS_size hm
                    rw [L_length, L_length] at this
                    omega
                  clear hcb hbb
                  generalize xs[i] = ln at *
                  have HLN := Lib.hid hLn
                  clear hLn
                  have hpu := put_any base Bo pre f t lv ls ⟨#[32]⟩ ln wc HO.out HBZ.out (by decide) (by omega) (by omega) (by omega)
                  go_upto_region 33 with (go_at_call 72; refine hpu.mono ?_; rintro e w10 ⟨rfl, hbel10, lv', hO10⟩)
                  have hst := hunksTo_keep HLA.out.1 HTO.out HM.out
                  have HFIN : Hid (LoopAt mv (linesS (L a)) (linesS (L b)) base Bo (n + 1) (i + 1) (j + 1) (pre ++ [(f, t, lv', ls ++ [⟨#[32]⟩ ++ ln])]) w10) := LoopAt.put HOP.out (by rw [L_one, HLN.out]; rw [List.getD_eq_getElem?_getD, HLX.out] at hst; exact hst) hO10 (by omega) HPB.out (by omega)
                  have HB10 : Hid (Below w.heap.size w w10) := HBLC.out.trans (hbel10.mono HBS.out)
                  have HW10 : Hid (ButBo base Bo w8 w10) := fun k hk hne => (hbel10.block k hk).trans (HBW.out k hk hne)
                  have HZ10 : Hid (base ≤ w10.heap.size) := Nat.le_trans HBZ.out hbel10.size
                  clear hst hbel10 hO10 cx hln hpu
                  go_wp2_with fail
                  go_roundw
                  case rel => exact ⟨n + 1, i + 1, j + 1, _, by omega, by go_num, by first | go_num | rfl, by first | go_num | rfl, HFIN, HB10, HW10, HZ10⟩
                  case measure => simp [intOf]; omega

                · have hmm : m = 2 := HGD.out.symm.trans hm
                  have b1 : ((m : Int) == 1) = false := by rw [hmm]; rfl
                  have b2 : ((m : Int) == 2) = true := by rw [hmm]; rfl
                  have hil := (List.getElem?_eq_some_iff.1 hlx).1
                  have HM := Lib.hid hm; have HLX := Lib.hid hlx
                  rw [HXL.out] at hil
                  clear hm hmm hlx
                  obtain ⟨bb, ob, rfl, hbb, hcb⟩ := (((HSX8.out).off HBO8.out (fun u hu A n c e => by obtain ⟨s, _, rfl⟩ := List.mem_map.1 hu; cases e) HBW.out)).2 (by omega)
                  have hidx : i < xs.length := by omega
                  have cx := hcb i (.string xs[i]) (by simp [strs, hidx])
                  have i0 : (0 : Int) ≤ (i : Int) := by omega
                  have i1 : (i : Int) < (xs.length : Int) := by omega
                  have hLn : L xs[i] = l := by
                    have h1 := HLX.out
                    rw [← HX.out, List.getElem?_map, List.getElem?_eq_getElem hidx] at h1
                    exact Option.some.inj h1
                  have hln : xs[i].size ≤ 4000 := by
                    have hm : L xs[i] ∈ linesS (L a) := by rw [← HX.out]; exact List.mem_map_of_mem (List.getElem_mem hidx)
                    have := linesS_size hm
                    rw [L_length, L_length] at this
                    omega
                  clear hcb hbb
                  generalize xs[i] = ln at *
                  have HLN := Lib.hid hLn
                  clear hLn
                  have hpu := put_any base Bo pre f t lv ls ⟨#[45]⟩ ln wc HO.out HBZ.out (by decide) (by omega) (by omega) (by omega)
                  go_upto_region 33 with (go_at_call 72; refine hpu.mono ?_; rintro e w10 ⟨rfl, hbel10, lv', hO10⟩)
                  have hst := hunksTo_drop HLA.out.1 HTO.out HM.out
                  have HFIN : Hid (LoopAt mv (linesS (L a)) (linesS (L b)) base Bo (n + 1) (i + 1) (j) (pre ++ [(f, t, lv', ls ++ [⟨#[45]⟩ ++ ln])]) w10) := LoopAt.put HOP.out (by rw [L_one, HLN.out]; rw [List.getD_eq_getElem?_getD, HLX.out] at hst; exact hst) hO10 (by omega) HPB.out (by omega)
                  have HB10 : Hid (Below w.heap.size w w10) := HBLC.out.trans (hbel10.mono HBS.out)
                  have HW10 : Hid (ButBo base Bo w8 w10) := fun k hk hne => (hbel10.block k hk).trans (HBW.out k hk hne)
                  have HZ10 : Hid (base ≤ w10.heap.size) := Nat.le_trans HBZ.out hbel10.size
                  clear hst hbel10 hO10 cx hln hpu
                  go_wp2_with fail
                  go_roundw
                  case rel => exact ⟨n + 1, i + 1, j, _, by omega, by go_num, by first | go_num | rfl, by first | go_num | rfl, HFIN, HB10, HW10, HZ10⟩
                  case measure => simp [intOf]; omega

                · have hmm : m = 3 := HGD.out.symm.trans hm
                  have b1 : ((m : Int) == 1) = false := by rw [hmm]; rfl
                  have b2 : ((m : Int) == 2) = false := by rw [hmm]; rfl
                  have hjl := (List.getElem?_eq_some_iff.1 hly).1
                  have HM := Lib.hid hm; have HLX := Lib.hid hly
                  rw [HYL.out] at hjl
                  clear hm hmm hly
                  obtain ⟨bb, ob, rfl, hbb, hcb⟩ := (((HSY8.out).off HBO8.out (fun u hu A n c e => by obtain ⟨s, _, rfl⟩ := List.mem_map.1 hu; cases e) HBW.out)).2 (by omega)
                  have hidx : j < ys.length := by omega
                  have cx := hcb j (.string ys[j]) (by simp [strs, hidx])
                  have i0 : (0 : Int) ≤ (j : Int) := by omega
                  have i1 : (j : Int) < (ys.length : Int) := by omega
                  have hLn : L ys[j] = l := by
                    have h1 := HLX.out
                    rw [← HY.out, List.getElem?_map, List.getElem?_eq_getElem hidx] at h1
                    exact Option.some.inj h1
                  have hln : ys[j].size ≤ 4000 := by
                    have hm : L ys[j] ∈ linesS (L b) := by rw [← HY.out]; exact List.mem_map_of_mem (List.getElem_mem hidx)
                    have := linesS_size hm
                    rw [L_length, L_length] at this
                    omega
                  clear hcb hbb
                  generalize ys[j] = ln at *
                  have HLN := Lib.hid hLn
                  clear hLn
                  have hpu := put_any base Bo pre f t lv ls ⟨#[43]⟩ ln wc HO.out HBZ.out (by decide) (by omega) (by omega) (by omega)
                  go_upto_region 33 with (go_at_call 72; refine hpu.mono ?_; rintro e w10 ⟨rfl, hbel10, lv', hO10⟩)
                  have hst := hunksTo_add HLA.out.1 HTO.out (by rw [HM.out]; decide) (by rw [HM.out]; decide)
                  have HFIN : Hid (LoopAt mv (linesS (L a)) (linesS (L b)) base Bo (n + 1) (i) (j + 1) (pre ++ [(f, t, lv', ls ++ [⟨#[43]⟩ ++ ln])]) w10) := LoopAt.put HOP.out (by rw [L_one, HLN.out]; rw [List.getD_eq_getElem?_getD, HLX.out] at hst; exact hst) hO10 (by omega) HPB.out (by omega)
                  have HB10 : Hid (Below w.heap.size w w10) := HBLC.out.trans (hbel10.mono HBS.out)
                  have HW10 : Hid (ButBo base Bo w8 w10) := fun k hk hne => (hbel10.block k hk).trans (HBW.out k hk hne)
                  have HZ10 : Hid (base ≤ w10.heap.size) := Nat.le_trans HBZ.out hbel10.size
                  clear hst hbel10 hO10 cx hln hpu
                  go_wp2_with fail
                  go_roundw
                  case rel => exact ⟨n + 1, i, j + 1, _, by omega, by go_num, by first | go_num | rfl, by first | go_num | rfl, HFIN, HB10, HW10, HZ10⟩
                  case measure => simp [intOf]; omega

        · have hne : n = mv.length := by omega
          obtain ⟨v, hBv, hrv, hv0, hlv⟩ := HLA.out.2.1
          obtain ⟨Av, cv, rfl⟩ := own_shape23 hrv
          have c0 : wr.cell? ⟨Bo, 0, none⟩ = some (.slice Av hs.length cv) := cells_box hBv 0
          have n1 : ¬ (n : Int) < (mv.length : Int) := by omega
          have hR : HkR wr w.heap.size (.slice Av hs.length cv) hs := ⟨own_base hrv HBS.out, fun h hh => own_base (hlv h hh) HBS.out⟩
          have hfin : hs.map hkOf = hunksL (L a) (L b) := by
            have h1 := HLA.out.1
            show _ = hunksX _ _
            unfold hunksX
            rw [HMV.out, ← hne, h1]
          have HR := Lib.hid hR; have HF := Lib.hid hfin
          clear hBv hrv hv0 hlv hR hfin hne
          go_wp2_with fail
          try rw [Exit.noGoto_ret]
          try rw [Exit.noGoto_ret]
          go_ret2
          exact ⟨HBL.out, .inl ⟨by rw [HTA.out, HTB.out]; rfl, _, hs, rfl, HF.out, HR.out⟩⟩

end Go.Proofs.YthjaepmfkgejkaaDoor
