/-
  Hunks in memory, and what the closure of hunk.Hunks does: a line more in the last hunk. Conditions: as each says.
-/
import Derived.Test.YthjaepmfkgejkaaDoorMoves23A
import Derived.Test.YthjaepmfkgejkaaDoorRowList
import Derived.Test.YthjaepmfkgejkaaDoorNumWalk23
import Derived.Test.YthjaepmfkgejkaaDoorHunks23Spec
namespace Go.Proofs.YthjaepmfkgejkaaDoor
open Go.RowKit Go.Maps Go.Shelf
set_option linter.unusedVariables false
set_option linter.unusedSimpArgs false

/-- A hunk as it lies in memory: from, to, the slice of its lines, the lines. -/
abbrev HkD := Nat × Nat × Value × List ByteArray
def hkV (h : HkD) : List Value := [.int .i64 (h.1 : Int), .int .i64 (h.2.1 : Int), h.2.2.1]
def hkOf (h : HkD) : HunkD := (h.1, h.2.1, h.2.2.2.map L)
theorem hkV_len (l : List HkD) : ∀ h ∈ l, (hkV h).length = 3 := fun _ _ => rfl
theorem hkRows_len (l : List HkD) : (rowsV hkV l).length = l.length * 3 := rowsV_length (hkV_len l)
theorem hkRows_set (pre : List HkD) (f t : Nat) (lv lv' : Value) (ls ls' : List ByteArray) : (rowsV hkV (pre ++ [(f, t, lv, ls)])).set (pre.length * 3 + 2) lv' = rowsV hkV (pre ++ [(f, t, lv', ls')]) := by
  rw [rowsV_app, rowsV_app, List.set_append_right _ _ (by rw [hkRows_len]; omega), hkRows_len, show pre.length * 3 + 2 - pre.length * 3 = 2 by omega]
  rfl
/-- Closed hunks: each has its lines in a row of its own. -/
def HkC (w : World) (base Bo : Nat) (hs : List HkD) : Prop := ∃ v, w.heap[Bo]? = some (.cells #[v] 90 (0, 0)) ∧ w.ownsRow base 94 3 v hs.length (rowsV hkV hs) ∧ (hs = [] → v = .slice none 0 0) ∧
  ∀ h ∈ hs, w.ownsRow base 9 1 h.2.2.1 h.2.2.2.length (strs h.2.2.2)
/-- The last hunk is open: its lines lie behind all others'. -/
def HkO (w : World) (base Bo : Nat) (pre : List HkD) (h : HkD) : Prop := ∃ X c bo, w.heap[Bo]? = some (.cells #[.slice (some ⟨X, 0, none⟩) (pre.length + 1) c] 90 (0, 0)) ∧ base ≤ bo ∧ bo ≤ w.heap.size ∧
  w.ownsRow base 94 3 (.slice (some ⟨X, 0, none⟩) (pre.length + 1) c) (pre.length + 1) (rowsV hkV (pre ++ [h])) ∧
  (∀ k ∈ pre, w.ownsRow base 9 1 k.2.2.1 k.2.2.2.length (strs k.2.2.2) ∧ ∀ g, k.2.2.1.ownBlock = some g → g < bo) ∧ w.ownsRow bo 9 1 h.2.2.1 h.2.2.2.length (strs h.2.2.2)
theorem own_base {w : World} {b b' : Nat} {e : TypeId} {sz n : Nat} {v : Value} {xs : List Value} (h : w.ownsRow b e sz v n xs) (hb : b' ≤ b) : w.ownsRow b' e sz v n xs := by
  refine ⟨h.1, ?_⟩
  rcases h.2 with h0 | ⟨g, cap, cur, hv, hbg, r⟩
  · exact .inl h0
  · exact .inr ⟨g, cap, cur, hv, Nat.le_trans hb hbg, r⟩
theorem HkO.closed {w : World} {base Bo : Nat} {pre : List HkD} {h : HkD} (hh : HkO w base Bo pre h) : HkC w base Bo (pre ++ [h]) := by
  obtain ⟨X, c, bo, h1, h3, _, h4, h5, h6⟩ := hh
  refine ⟨_, h1, by simpa using h4, fun q => absurd q (by simp), fun k hk => ?_⟩
  rcases List.mem_append.1 hk with q | q
  · exact (h5 k q).1
  · rw [List.mem_singleton.1 q]; exact own_base h6 h3
theorem HkC.below {w w' : World} {base Bo : Nat} {hs : List HkD} (h : HkC w base Bo hs) (hb : Below w.heap.size w w') : HkC w' base Bo hs := by
  obtain ⟨v, h1, h3, h4, h5⟩ := h
  exact ⟨v, (hb.block Bo (Array.getElem?_eq_some_iff.1 h1).1).trans h1, own_kept h3 hb, h4, fun k hk => own_kept (h5 k hk) hb⟩
theorem HkO.below {w w' : World} {base Bo : Nat} {pre : List HkD} {h : HkD} (hh : HkO w base Bo pre h) (hb : Below w.heap.size w w') : HkO w' base Bo pre h := by
  obtain ⟨X, c, bo, h1, h3, h7, h4, h5, h6⟩ := hh
  exact ⟨X, c, bo, (hb.block Bo (Array.getElem?_eq_some_iff.1 h1).1).trans h1, h3, Nat.le_trans h7 hb.size, own_kept h4 hb, fun k hk => ⟨own_kept (h5 k hk).1 hb, (h5 k hk).2⟩, own_kept h6 hb⟩
/-- A row of elements of one kind stays where a block of another kind changes. -/
theorem own_tag {w w' : World} {base n size X : Nat} {e e' : TypeId} {v : Value} {xs : List Value} (ho : w.ownsRow base e size v n xs) {cur : Array Value} {fz : Nat × Nat} (hX : w.heap[X]? = some (.cells cur e' fz)) (hne : e ≠ e') (hk : ∀ k, k < w.heap.size → k ≠ X → w'.heap[k]? = w.heap[k]?) : w'.ownsRow base e size v n xs := by
  obtain ⟨h1, h2⟩ := ho
  refine ⟨h1, ?_⟩
  rcases h2 with h2 | ⟨g, cap, c2, rfl, hg, hh, r⟩
  · exact .inl h2
  · refine .inr ⟨g, cap, c2, rfl, hg, ?_, r⟩
    rw [hk g (Array.getElem?_eq_some_iff.1 hh).1 (by
      rintro rfl
      rw [hX] at hh
      injection hh with hh
      injection hh with _ hh _
      exact hne hh.symm)]
    exact hh
theorem own_block {w : World} {base n size g c : Nat} {e : TypeId} {xs : List Value} (ho : w.ownsRow base e size (.slice (some ⟨g, 0, none⟩) n c) n xs) : ∃ cur, w.heap[g]? = some (.cells cur e (0, 0)) := by
  rcases ho.2 with ⟨h, _⟩ | ⟨g', cap, cur, h, _, hh, _⟩
  · cases h
  · have : g = g' := by injection h with h; injection h with h; injection h
    subst this
    exact ⟨cur, hh⟩
theorem strInfo23 : (Tryd.prog.info? 9).map (fun i => (i.zero, i.size, i.bytes)) = some (some (.string ⟨#[]⟩), 1, 16) := by kernel_rfl
def PutGives (w : World) (base Bo : Nat) (pre : List HkD) (f t : Nat) (ls : List ByteArray) (s : ByteArray) (e : Ending) (w' : World) : Prop :=
  e = .returned (.tuple #[]) ∧ Below base w w' ∧ ∃ lv', HkO w' base Bo pre (f, t, lv', ls ++ [s])
set_option maxHeartbeats 4000000 in
set_option maxRecDepth 100000 in
theorem put_any (base Bo : Nat) (pre : List HkD) (f t : Nat) (lv : Value) (ls : List ByteArray) (sg ln : ByteArray) (w : World) (hO : HkO w base Bo pre (f, t, lv, ls)) (hbs : base ≤ w.heap.size) (hsg : sg.size ≤ 1) (hln : ln.size ≤ 1000000) (hn : pre.length ≤ 1000000) (hl : ls.length ≤ 1000000) :
    Calls Tryd.prog 72 #[.string sg, .string ln, .pointer (some ⟨Bo, 0, none⟩)] w (PutGives w base Bo pre f t ls (sg ++ ln)) := by
  obtain ⟨X, c, bo, hB, hbo, hbz, hX, hpre, hlast⟩ := hO
  have hone : ∀ u : ByteArray, (Value.string u).oneCell' = true := fun _ => rfl
  obtain ⟨q, hq⟩ : ∃ q, pre.length = q := ⟨_, rfl⟩
  have hlen := hkRows_len (pre ++ [(f, t, lv, ls)])
  rw [List.length_append, List.length_singleton, hq] at hlen
  have c0 : w.cell? ⟨Bo, 0, none⟩ = some (.slice (some ⟨X, 0, none⟩) (q + 1) c) := by rw [← hq]; exact cells_box hB 0
  have cL : w.cell? ⟨X, q * 3 + 2, none⟩ = some lv := by
    rw [hX.cellAt (q * 3 + 2) (by omega)]
    have h := rowsV_get (hkV_len (pre ++ [(f, t, lv, ls)])) pre.length (by simp) 2 lv (by simp [hkV])
    rw [hq] at h
    exact h
  have e1 : IntKind.i64.wrap (((q : Int) + 1) - 1) = (q : Int) := by rw [IntWalk.i64_in _ (by omega)]; omega
  have hq6 : q ≤ 1000000 := by omega
  have e2 : IntKind.i64.wrap (q : Int) = (q : Int) := IntWalk.i64_in _ (by omega)
  have q0 : (0 : Int) ≤ (q : Int) := by omega
  have q1 : (q : Int) < (q : Int) + 1 := by omega
  have z1 : ¬ 9223372036854775807 < sg.size + ln.size := by omega
  obtain ⟨cur, hXb⟩ := own_block hX
  have hXBo : X ≠ Bo := by
    rintro rfl
    rw [hB] at hXb
    injection hXb with hh
    injection hh with _ hh _
    revert hh
    decide
  have hXz := (Array.getElem?_eq_some_iff.1 hXb).1
  have hBz := (Array.getElem?_eq_some_iff.1 hB).1
  have hLX : lv.ownBlock ≠ some X := by
    rcases hlast.2 with ⟨h, _⟩ | ⟨g, cap, c2, h, _, hh, _⟩
    · simp only at h; rw [h]; simp [Value.ownBlock]
    · simp only at h
      rw [h]
      intro e
      have : g = X := by simpa [Value.ownBlock] using e
      subst this
      rw [hXb] at hh
      injection hh with hh
      injection hh with _ hh _
      revert hh
      decide
  have hLB : lv.ownBlock ≠ some Bo := by
    rcases hlast.2 with ⟨h, _⟩ | ⟨g, cap, c2, h, _, hh, _⟩
    · simp only at h; rw [h]; simp [Value.ownBlock]
    · simp only at h
      rw [h]
      intro e
      have : g = Bo := by simpa [Value.ownBlock] using e
      subst this
      rw [hB] at hh
      injection hh with hh
      injection hh with _ hh _
      revert hh
      decide
  have hLb : ∀ g, lv.ownBlock = some g → bo ≤ g := fun g hg => (hlast.lt g hg).1
  have hXbs : base ≤ X := (hX.lt X (by simp [Value.ownBlock])).1
  have HX := Lib.hid hX; have HPRE := Lib.hid hpre; have HL := Lib.hid hlast; have HB := Lib.hid hB; have HXB := Lib.hid hXb; have HQ := Lib.hid hq; have HXBo := Lib.hid hXBo; have HLX := Lib.hid hLX; have HLB := Lib.hid hLB; have HLb := Lib.hid hLb; have HCL := Lib.hid cL
  clear hX hpre hlast hB hXb hq hlen hXBo hLX hLB hLb
  go_enter Tryd.func72, Tryd.ntmps72
  go_wp2_with (refine wp_app1g rfl _ _ 56 rfl bo 9 (.string ⟨#[]⟩) 16 Tryd.underlying56 strInfo23 rfl _ ls.length (strs ls) rfl HL.out (.string (sg ++ ln)) 9 rfl rfl (by unfold maxLen; omega) (by omega) hbz ?_; intro lv' w8 hown8 hb8 hk8
               obtain ⟨A8, c8, rfl⟩ := own_shape23 hown8
               have hX8 : w8.heap[X]? = w.heap[X]? := hk8 X hXz HLX.out
               have cL8 : w8.cell? ⟨X, q * 3 + 2, none⟩ = some lv := (World.cell?_of_block (w := w) (a := ⟨X, q * 3 + 2, none⟩) hX8).trans HCL.out
               have fL8 : w8.frozen? ⟨X, q * 3 + 2, none⟩ = false := frozen_of_row _ _ _ _ _ (hX8.trans HXB.out)
               have HX8 := Lib.hid hX8; have HB8 := Lib.hid hb8; have HK8 := Lib.hid hk8; have HO8 := Lib.hid hown8
               clear hX8 hb8 hk8 hown8)
  have hk8 := HK8.out; have ho8 := HO8.out; have hb8 := HB8.out
  have hbel8 : Below base w w8 := hb8 base w hbo (Below.refl _ _)
  have hB8 : w8.heap[Bo]? = w.heap[Bo]? := hk8 Bo hBz HLB.out
  have hown8 : w8.ownsRow base 94 3 (.slice (some ⟨X, 0, none⟩) (pre.length + 1) c) (pre.length + 1) (rowsV hkV (pre ++ [(f, t, lv, ls)])) := by
    obtain ⟨h1, h2⟩ := HX.out
    refine ⟨h1, ?_⟩
    rcases h2 with ⟨h, _⟩ | ⟨g, cap, c2, h, hg, hh, r⟩
    · cases h
    · have hgX : g = X := by injection h with h; injection h with h; injection h with h; exact h.symm
      subst hgX
      exact .inr ⟨g, cap, c2, h, hg, HX8.out.trans hh, r⟩
  obtain ⟨lv', hlv⟩ : ∃ lv', Value.slice A8 (ls.length + 1) c8 = lv' := ⟨_, rfl⟩
  rw [hlv] at ho8 ⊢
  obtain ⟨hst, _⟩ := hown8.stored (pre.length * 3 + 2) lv'
  rw [hkRows_set pre f t lv lv' ls (ls ++ [sg ++ ln]), HQ.out] at hst
  have hoth : ∀ k, k ≠ X → (w8.setCell ⟨X, q * 3 + 2, none⟩ lv').heap[k]? = w8.heap[k]? := fun k hk => Below.heap_setCell _ _ _ _ hk
  have hsz : (w8.setCell ⟨X, q * 3 + 2, none⟩ lv').heap.size = w8.heap.size := by simp [World.setCell]
  go_end0
  refine ⟨rfl, hbel8.setCell (by exact hXbs) _, lv', X, c, bo, ?_, hbo, ?_, ?_, fun k hk => ?_, ?_⟩
  · rw [hoth _ (fun e => HXBo.out e.symm), hB8]; exact HB.out
  · have := hbel8.size; omega
  · rw [HQ.out]; exact hst
  · obtain ⟨h1, h2⟩ := HPRE.out k hk
    have h8 : w8.ownsRow base 9 1 k.2.2.1 k.2.2.2.length (strs k.2.2.2) := by
      refine ⟨h1.1, ?_⟩
      rcases h1.2 with h | ⟨g, cap, c2, h, hg, hh, r⟩
      · exact .inl h
      · refine .inr ⟨g, cap, c2, h, hg, ?_, r⟩
        have hgz := (Array.getElem?_eq_some_iff.1 hh).1
        rw [hk8 g hgz (fun e => by
          have a1 := HLb.out g e
          have a2 := h2 g (by rw [h]; rfl)
          omega)]
        exact hh
    exact ⟨own_tag h8 (HX8.out.trans HXB.out) (by decide) (fun k _ hk => hoth k hk), h2⟩
  · have h9 : strs (ls ++ [sg ++ ln]) = strs ls ++ [.string (sg ++ ln)] := by simp [strs]
    rw [h9, List.length_append, List.length_singleton]
    exact own_tag ho8 (HX8.out.trans HXB.out) (by decide) (fun k _ hk => hoth k hk)
/-- 'append(out, x)', x of several cells; every other block stands as it stood. -/
theorem wp_appNg {P : Program} {ops : Array Oper} {rest : List Oper} {o : Oper} {a : Act} {Q : Exit → Act → World → Prop} {w : World} (hgd : o.guard = none) (s x : Operand) (t : TypeId)
    (ho : o.op = .call { callee := .builtin .append, args := #[s, x], argTypes := #[t, t] })
    (base : Nat) (e : TypeId) (z : Value) (size bytes : Nat) (ht : P.underlying t = some (.slice e)) (hinf : (P.info? e).map (fun i => (i.zero, i.size, i.bytes)) = some (some z, size, bytes))
    (hz1 : z.cells.size = size) (hsz : 0 < size) (v : Value) (n : Nat) (xs : List Value) (hs : a.eval s = v) (hown : w.ownsRow base e size v n xs)
    (us : List Value) (et : TypeId) (hl : us.length = size) (hx : a.eval x = .slice (some ⟨w.heap.size, 0, none⟩) 1 1) (hu : ∀ u ∈ us, u.oneCell' = true)
    (hn : n + 1 ≤ maxLen) (hb : (n + 1) * bytes ≤ 140737488355328) (hbase : base ≤ w.heap.size)
    (h : ∀ v' w', w'.ownsRow base e size v' (n + 1) (xs ++ us) → (∀ B a, B ≤ base → Below B a w → Below B a w') → (∀ k, k < w.heap.size → v.ownBlock ≠ some k → w'.heap[k]? = w.heap[k]?) → wpList P ops Q rest (a.put o.dst v') w') :
    wpList P ops Q (o :: rest) a (w.alloc (.cells us.toArray et)) := by
  obtain ⟨i0, hi, hz0, hz2, hz3⟩ := info_parts hinf
  refine wpList_append_own _ hgd s x t ho base e i0 z size bytes ht hi hz0 hz2 hz3 hz1 hsz v n xs hs (hown.alloc _) ⟨w.heap.size, 0, none⟩ 1 1 us hx (by simp [hl]) ?_ hu hn hb (by simp; omega) ?_
  · intro j u' hj
    have e : (⟨w.heap.size, 0, none⟩ : Addr).add j = ⟨w.heap.size, j, none⟩ := by unfold Addr.add; split <;> simp_all
    rw [e, World.cell?_alloc_new]
    simpa using hj
  · intro v' w' hown' hgrow _
    refine h v' w' hown' (fun B a hB hba => ?_) (fun k hk hne => ?_)
    · refine (hba.alloc (by omega) _).grown hgrow (by simp; omega) fun k hk => ?_
      have := (hown.lt k hk).1
      omega
    · rw [hgrow.block k (by simp; omega) (fun e => hne e.symm)]
      exact Below.heap_alloc _ _ _ hk
theorem hunkInfo : (Tryd.prog.info? 94).map (fun i => (i.zero, i.size, i.bytes)) = some (some (.agg #[.int .i64 0, .int .i64 0, .slice none 0 0]), 3, 40) := by kernel_rfl
/-- What lies elsewhere stays while the hunks' box and rows change. -/
def ButBo (z Bo : Nat) (w w' : World) : Prop := ∀ k, k < z → k ≠ Bo → w'.heap[k]? = w.heap[k]?
theorem Sl.off {w w' : World} {B Bo n : Nat} {A A0 : Option Addr} {n0 c0 : Nat} {T : TypeId} {fz : Nat × Nat} {xs : List Value} (h : Sl w B A n 1 xs) (hBo : w.heap[Bo]? = some (.cells #[.slice A0 n0 c0] T fz)) (hx : ∀ u ∈ xs, ∀ A n c, u ≠ .slice A n c) (hk : ButBo B Bo w w') : Sl w' B A n 1 xs := by
  refine ⟨h.1, fun hn => ?_⟩
  obtain ⟨b, off, e, hb, hc⟩ := h.2 hn
  have hl : 0 < xs.length := by have := h.1; omega
  have hne : b ≠ Bo := by
    rintro rfl
    have h0 := hc 0 _ (List.getElem?_eq_getElem hl)
    rw [Nat.add_zero] at h0
    have hlt : off < 1 := by
      rcases Nat.lt_or_ge off 1 with q | q
      · exact q
      · simp [World.cell?, hBo, show ¬ off < 1 by omega] at h0
        try omega
    obtain rfl : off = 0 := by omega
    rw [cells_box hBo 0] at h0
    exact hx _ (List.getElem_mem hl) _ _ _ (Option.some.inj h0).symm
  refine ⟨b, off, e, hb, fun j u hj => ?_⟩
  have h1 := hc j u hj
  unfold World.cell? at h1 ⊢
  rw [hk b hb hne]
  exact h1
/-- A new hunk behind the closed ones. -/
theorem HkC.opened {w w' : World} {base Bo : Nat} {hs : List HkD} {v v' : Value} (i j : Nat) (hB : w.heap[Bo]? = some (.cells #[v] 90 (0, 0))) (hbs : base ≤ w.heap.size)
    (hl : ∀ h ∈ hs, w.ownsRow base 9 1 h.2.2.1 h.2.2.2.length (strs h.2.2.2)) (hr : w.ownsRow base 94 3 v hs.length (rowsV hkV hs))
    (ho : w'.ownsRow base 94 3 v' (hs.length + 1) (rowsV hkV hs ++ [.int .i64 (i : Int), .int .i64 (j : Int), .slice none 0 0])) (hbel : Below base w w') (hk : ∀ k, k < w.heap.size → v.ownBlock ≠ some k → w'.heap[k]? = w.heap[k]?) :
    HkO (w'.setCell ⟨Bo, 0, none⟩ v') base Bo hs (i, j, .slice none 0 0, []) := by
  have hvB : v.ownBlock ≠ some Bo := by
    rcases hr.2 with ⟨rfl, _⟩ | ⟨g, cap, cur, rfl, _, hh, _⟩
    · simp [Value.ownBlock]
    · intro e
      have : g = Bo := by simpa [Value.ownBlock] using e
      subst this
      rw [hB] at hh
      injection hh with hh
      injection hh with _ hh _
      revert hh
      decide
  have hB1 := (hk Bo (Array.getElem?_eq_some_iff.1 hB).1 hvB).trans hB
  have hB2 := set_block (j := 0) hB1 v'
  have hoth : ∀ k, k < w'.heap.size → k ≠ Bo → (w'.setCell ⟨Bo, 0, none⟩ v').heap[k]? = w'.heap[k]? := fun k _ hk => Below.heap_setCell _ _ _ _ hk
  have hsz : (w'.setCell ⟨Bo, 0, none⟩ v').heap.size = w'.heap.size := by simp [World.setCell]
  rcases id ho.2 with ⟨rfl, h0⟩ | ⟨X, c, cur, rfl, hXb, hh, _⟩
  · omega
  refine ⟨X, c, w'.heap.size, hB2, Nat.le_trans hbs hbel.size, by omega, ?_, fun h hh => ?_, World.ownsRow_nil _ _ _ _⟩
  · rw [rowsV_app]
    exact own_tag ho hB1 (by decide) hoth
  · have h1 := hl h hh
    have h2 : w'.ownsRow base 9 1 h.2.2.1 h.2.2.2.length (strs h.2.2.2) := by
      refine ⟨h1.1, ?_⟩
      rcases h1.2 with q | ⟨g, cap, c2, q, hg, hh, r⟩
      · exact .inl q
      · refine .inr ⟨g, cap, c2, q, hg, ?_, r⟩
        rw [hk g (Array.getElem?_eq_some_iff.1 hh).1 (fun e => by
          rcases hr.2 with ⟨hv, _⟩ | ⟨g', cap', c3, hv, _, hh', _⟩
          · rw [hv] at e; simp [Value.ownBlock] at e
          · rw [hv] at e
            have : g' = g := by simpa [Value.ownBlock] using e
            subst this
            rw [hh] at hh'
            injection hh' with hh'
            injection hh' with _ hh' _
            revert hh'
            decide)]
        exact hh
    refine ⟨own_tag h2 hB1 (by decide) hoth, fun g hg => ?_⟩
    exact (h2.lt g hg).2
end Go.Proofs.YthjaepmfkgejkaaDoor
