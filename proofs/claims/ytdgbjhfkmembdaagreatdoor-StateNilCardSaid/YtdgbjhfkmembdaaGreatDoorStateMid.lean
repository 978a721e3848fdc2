/-
  What stands while a change is added; the adding's loops, one round at a time. Conditions: as each says.
-/
import Derived.Test.YtdgbjhfkmembdaaGreatDoorStateDo
import Derived.Test.YtdgbjhfkmembdaaGreatDoorStateSize
import Derived.Test.YtdgbjhfkmembdaaGreatDoorRight08S
import Derived.Test.YtdgbjhfkmembdaaGreatDoorObjWrites1
namespace Go.Proofs.YtdgbjhfkmembdaaGreatDoor
open Go.RowKit Go.Maps
set_option linter.unusedVariables false
set_option linter.unusedSimpArgs false

def encC (c : ChangeD) : Int := encR (1, c, noCommitD)
def idC (c : ChangeD) : List UInt8 := idD (1, c, noCommitD)
/-- All documents' indexes are small. -/
def DocsIx (S : StateD) : Prop := ∀ x ∈ S.1, RunIx x.2
theorem DocsIx.do {S : StateD} (h : DocsIx S) (i : List UInt8) (t : Int) (place next : Nat) (x : OpD) : DocsIx (doAt S i t place next x) := by
  have hset : ∀ (k : KeyD) (d : List RunD) (r : List ClaimD × List (List UInt8 × EntryD)), RunIx d → DocsIx (setDoc S.1 k d, r) := fun k d r hd y hy => by
    rcases mem_setDoc hy with hy | rfl
    · exact h y hy
    · exact hd
  unfold doAt
  split
  · exact hset _ _ _ fun r hr => by cases hr
  · split
    · exact h
    · split
      · exact h
      · rename_i d hd
        have hix := h _ (docAt_mem hd)
        split
        · exact hset _ _ _ (hix.insert _ _ _ _)
        · split
          · exact hset _ _ _ (hix.delete _ _)
          · exact h
/-- Operations that may be asked in a state. -/
structure OpFine (S : StateD) (x : OpD) : Prop where
  fin : OpIn x
  doc : RefIx S x.2.1
  at' : RefIx S x.2.2.1
  small : x.2.2.2.1.size ≤ 1073741824
  text : isText x.2.2.2.1 = true
  count : x.2.2.2.2.1 ≤ 1099511627776
  kind : x.1 = 1 ∨ x.1 = 3 ∨ x.1 = 4 ∨ x.1 = 5
def mkN (l : List OpD) : Nat := (l.map fun x => 1 + runesN x.2.2.2.1).sum
/-- What a change may be for it to be added. -/
structure AddFine (S : StateD) (q : StateL) (c : ChangeD) : Prop where
  ok : ChangeOk c
  ops : ∀ x ∈ c.2.2.2, OpIn x
  author : c.2.2.1.size ≤ maxLen
  deps : c.2.1.length ≤ 1073741824
  len : c.2.2.2.length ≤ 1048576
  fine : encC c = 0 → ∀ x ∈ c.2.2.2, OpFine S x
  made : mkN c.2.2.2 ≤ 1073741824
  nd : q.nd + c.2.2.2.length ≤ 1073741824
  chg : S.2.2.length ≤ 1073741824
  ix : DocsIx S
  le : ∃ c0 t0, StateLe S c0 t0 ∧ c0 + c.2.2.2.length ≤ 1073741824 ∧ t0 + textsN c.2.2.2 ≤ 1073741820

/-- What lies of a change while it is added. -/
structure AddMid (W : World) (b4 b5 ze n0 : Nat) (i : List UInt8) (c : ChangeD) (A1 : Option Addr) (c1 : Nat) (A2 : Option Addr) (c2 : Nat) : Prop where
  id : W.heap[b4]? = some (.cells (idV i).toArray 41 (0, 0))
  chg : W.heap[b5]? = some (.cells [.int .i64 c.1, .slice A1 c.2.1.length c1, .string c.2.2.1, .slice A2 c.2.2.2.length c2].toArray 37 (0, 0))
  err : W.heap[ze]? = some (.cells [.int .i64 0].toArray 29 (0, 0))
  ids : W.ownsRow n0 41 32 (.slice A1 c.2.1.length c1) c.2.1.length (idsV c.2.1)
  ops : W.ownsRow n0 112 70 (.slice A2 c.2.2.2.length c2) c.2.2.2.length (rowsV opV c.2.2.2)
def midTag (t : TypeId) : Bool := t == 41 || t == 37 || t == 29 || t == 112
theorem AddMid.but {X : Nat → Prop} {W W' : World} {b4 b5 ze n0 : Nat} {i : List UInt8} {c : ChangeD} {A1 A2 : Option Addr} {c1 c2 : Nat} (h : AddMid W b4 b5 ze n0 i c A1 c1 A2 c2) (hb : But X W W') (hx : ∀ k, X k → ∀ cur t fr, W.heap[k]? = some (.cells cur t fr) → midTag t = false) : AddMid W' b4 b5 ze n0 i c A1 c1 A2 c2 := by
  have hn : ∀ {k : Nat} {cur : Array Value} {t : TypeId} {fr : Nat × Nat}, W.heap[k]? = some (.cells cur t fr) → midTag t = true → ¬ X k := fun hc ht hX => by
    have := hx _ hX _ _ _ hc
    rw [ht] at this
    cases this
  refine ⟨(hb.block b4 (qX h.id) (hn h.id (by decide))).trans h.id, (hb.block b5 (qX h.chg) (hn h.chg (by decide))).trans h.chg, (hb.block ze (qX h.err) (hn h.err (by decide))).trans h.err, hb.own h.ids fun g hg hX => ?_, hb.own h.ops fun g hg hX => ?_⟩
  · obtain ⟨cur, hc⟩ := own_tagged h.ids hg
    exact hn hc (by decide) hX
  · obtain ⟨cur, hc⟩ := own_tagged h.ops hg
    exact hn hc (by decide) hX
theorem AddMid.keep {W W' : World} {b4 b5 ze n0 : Nat} {i : List UInt8} {c : ChangeD} {A1 A2 : Option Addr} {c1 c2 : Nat} (h : AddMid W b4 b5 ze n0 i c A1 c1 A2 c2) (hb : Below W.heap.size W W') : AddMid W' b4 b5 ze n0 i c A1 c1 A2 c2 := h.but (X := NoB) (But.of_below hb) fun k hk => hk.elim
theorem fit_any (B0 B a s : Nat) (S : StateD) (q : StateL) (i : List UInt8) (c : ChangeD) (dv ov : Value) (Am : Option Addr) (cm : Nat) (mk : List MakeD) (x : OpD) (w : World) (h : MidAt w B a s S q i c dv ov Am cm mk) (hrow : w.ownsRow B0 199 35 (.slice Am mk.length cm) mk.length (rowsV makeV mk)) (hB0 : B0 ≤ w.heap.size) (hlm : mk.length ≤ 1073741824) (htm : (Lit.int .i64 c.1).wf = true) (hx : OpFine S x) :
    Calls Tryz.prog 52 #[.pointer (some ⟨a, 0, none⟩), .agg (opV x).toArray] w (FitGives S w a s B0 i c dv ov (.slice Am mk.length cm) mk x) := by
  by_cases h3 : x.1 = 3
  · exact fit_create B0 B a s S q i c dv ov Am cm mk x w h hrow hB0 hx.fin hlm h3
  · exact fit_other B0 B a s S q i c dv ov Am cm mk x w h hrow hB0 hx.fin hlm h3 htm hx.doc hx.at' hx.small hx.text hx.count
theorem fitsAt_snoc (S : StateD) (i : List UInt8) (t : Int) (x : OpD) : ∀ (l : List OpD) (m0 : List MakeD), fitsAt S i t m0 (l ++ [x]) = (fitsAt S i t m0 l).bind fun p => (fitAt S i t p.1 x).map fun mk2 => (mk2, p.2 ++ [p.1.length])
  | [], m0 => by
    show fitsAt S i t m0 (x :: []) = (fitAt S i t m0 x).map fun mk2 => (mk2, [m0.length])
    conv => lhs; unfold fitsAt
    cases fitAt S i t m0 x <;> rfl
  | y :: l, m0 => by
    rw [List.cons_append]
    conv => lhs; unfold fitsAt
    conv => rhs; unfold fitsAt
    cases fitAt S i t m0 y with
    | none => rfl
    | some mk2 =>
      dsimp only
      rw [fitsAt_snoc S i t x l mk2]
      cases fitsAt S i t mk2 l with
      | none => rfl
      | some p =>
        simp only [Option.bind_some, Option.map_some]
        cases fitAt S i t p.1 x with
        | none => rfl
        | some mk3 => rfl
theorem fitsAt_none (S : StateD) (i : List UInt8) (t : Int) : ∀ (l l2 : List OpD) (m0 : List MakeD), fitsAt S i t m0 l = none → fitsAt S i t m0 (l ++ l2) = none
  | [], l2, m0, h => by cases h
  | y :: l, l2, m0, h => by
    rw [List.cons_append]
    unfold fitsAt at h ⊢
    cases hf : fitAt S i t m0 y with
    | none => rfl
    | some mk2 =>
      rw [hf] at h
      dsimp only at h ⊢
      rw [Option.map_eq_none_iff] at h
      rw [fitsAt_none S i t l l2 mk2 h]
      rfl
theorem fitAt_len {S : StateD} {i : List UInt8} {t : Int} {mk mk2 : List MakeD} {x : OpD} (h : fitAt S i t mk x = some mk2) : mk2.length ≤ mk.length + (1 + runesN x.2.2.2.1) ∧ ∀ m ∈ mk2, m ∈ mk ∨ m.2 = (0, zero32, 0) ∨ m.2 = keyAt S i t x.2.1 := by
  unfold fitAt at h
  split at h
  · cases h
    refine ⟨by rw [List.length_append, List.length_singleton]; omega, fun m hm => ?_⟩
    rcases List.mem_append.1 hm with hm | hm
    · exact .inl hm
    · rw [List.mem_singleton.1 hm]; exact .inr (.inl rfl)
  · split at h
    · cases h
    · split at h
      · cases h
      · split at h
        · split at h
          · cases h; exact ⟨by omega, fun m hm => .inl hm⟩
          · cases h
        · split at h
          · split at h
            · cases h
              refine ⟨by rw [List.length_append, List.length_replicate]; omega, fun m hm => ?_⟩
              rcases List.mem_append.1 hm with hm | hm
              · exact .inl hm
              · rw [(List.mem_replicate.1 hm).2]; exact .inr (.inr rfl)
            · cases h
          · cases h; exact ⟨by omega, fun m hm => .inl hm⟩
theorem mkN_snoc (l : List OpD) {j : Nat} (hj : j < l.length) : mkN (l.take (j + 1)) = mkN (l.take j) + (1 + runesN l[j].2.2.2.1) := by
  unfold mkN
  rw [List.take_succ_eq_append_getElem hj, List.map_append, List.sum_append]
  simp
theorem mkN_le (l : List OpD) (j : Nat) : mkN (l.take j) ≤ mkN l := by
  unfold mkN
  conv => rhs; rw [← List.take_append_drop j l]
  rw [List.map_append, List.sum_append]
  omega
theorem dosAt_snoc (i : List UInt8) (t : Int) (x : OpD) (n : Nat) : ∀ (l : List OpD) (ns : List Nat) (place : Nat) (s : StateD), l.length = ns.length → dosAt i t place s (l ++ [x]) (ns ++ [n]) = doAt (dosAt i t place s l ns) i t (place + l.length) n x
  | [], [], place, s, _ => rfl
  | [], m :: ns, place, s, h => by cases h
  | y :: l, [], place, s, h => by cases h
  | y :: l, m :: ns, place, s, h => by
    show dosAt i t (place + 1) (doAt s i t place m y) (l ++ [x]) (ns ++ [n]) = doAt (dosAt i t (place + 1) (doAt s i t place m y) l ns) i t (place + (l.length + 1)) n x
    rw [dosAt_snoc i t x n l ns (place + 1) _ (by simpa using h)]
    congr 1
    omega
theorem runes_le {s : ByteArray} {l : List Nat} (h : runesOf s = some l) : l.length ≤ s.size := by
  have := runesN_le s
  unfold runesN at this
  rw [h] at this
  exact this
theorem doc_len {w : World} {B p : Nat} {v : Value} {d : List RunD} (h : DocAt w B p v d) : d.length ≤ sizeR d := by
  obtain ⟨rs, rfl, hr⟩ := h.runs
  refine len_le_size (p := fun _ => True) fun r hr2 => ?_
  obtain ⟨x, hx, rfl⟩ := List.mem_map.1 hr2
  exact ⟨trivial, (hr.ins x hx).2.2⟩
theorem do_any (B a s : Nat) (S0 S : StateD) (q : StateL) (i : List UInt8) (c : ChangeD) (dv ov vm : Value) (place next : Nat) (x : OpD) (w : World) (h : StateAt w B s S q) (hA : AdderAt w a s i c dv ov vm) (hx : OpFine S0 x) (htm : (Lit.int .i64 c.1).wf = true) (hpl : place ≤ 1073741824) (hnx : next ≤ 1099511627776) (hcl : S.2.1.length ≤ 1073741824) (hnd : q.nd ≤ 1073741824) (hix : DocsIx S) (hsz : ∀ x ∈ S.1, sizeR x.2 ≤ 1073741820) :
    Calls Tryz.prog 53 #[.pointer (some ⟨a, 0, none⟩), .int .i64 (place : Int), .int .i64 (next : Int), .agg (opV x).toArray] w (DoGives w B s S (doAt S i c.1 place next x) q) := by
  rcases hx.kind with hk | hk | hk
  · obtain ⟨l, hl⟩ : ∃ l, runesOf x.2.2.2.1 = some l := by
      have := hx.text
      unfold isText at this
      cases hq : runesOf x.2.2.2.1 with
      | none => rw [hq] at this; cases this
      | some l => exact ⟨l, rfl⟩
    have hln := runes_le hl
    have hsm := hx.small
    refine do_insert B a s S q i c dv ov vm place next x w h hA hx.fin htm hpl hnx hk l hl (by omega) (by omega) (by unfold Ix; have := hx.at'.2.1; omega) fun d hd => ⟨hix _ (docAt_mem hd), ?_⟩
    have h1 := doc_len (h.docs _ _ hd).2
    have h2 := hsz _ (docAt_mem hd)
    dsimp only at h2
    omega
  · exact do_create B a s S q i c dv ov vm place next x w h hA hx.fin htm hpl hnx hk hcl hx.fin.2.2 hnd
  · exact do_claim B a s S q i c dv ov vm place next x w h hA hx.fin htm hpl hnx hk hcl hx.fin.2.2
end Go.Proofs.YtdgbjhfkmembdaaGreatDoor
