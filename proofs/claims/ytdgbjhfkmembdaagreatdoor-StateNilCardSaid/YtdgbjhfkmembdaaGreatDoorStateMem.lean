/-
  A state as it lies in memory, and what leaves it as it is. Conditions: as each says.
-/
import Derived.Test.YtdgbjhfkmembdaaGreatDoorStateSpec
import Derived.Test.YtdgbjhfkmembdaaGreatDoorDocRun
import Derived.Test.YtdgbjhfkmembdaaGreatDoorClaimCells
import Derived.Test.YtdgbjhfkmembdaaGreatDoorKeyMap
import Derived.Test.YtdgbjhfkmembdaaGreatDoorIdMap
import Derived.Test.YtdgbjhfkmembdaaGreatDoorObjMem
namespace Go.Proofs.YtdgbjhfkmembdaaGreatDoor
open Go.RowKit
set_option linter.unusedVariables false

def makeV (m : MakeD) : List Value := .bool m.1 :: keyV m.2
/-- The slices of an entry: its dependencies, its operations, what it made. -/
abbrev EntryM := Value × Value × Value
def entryV (e : EntryD) (m : EntryM) : List Value := [.int .i64 e.1.1, m.1, .string e.1.2.2.1, m.2.1, m.2.2]
structure EntryIn (w : World) (e : EntryD) (m : EntryM) : Prop where
  time : (Lit.int .i64 e.1.1).wf = true
  deps : w.ownsRow 0 41 32 m.1 e.1.2.1.length (idsV e.1.2.1)
  ops : w.ownsRow 0 112 70 m.2.1 e.1.2.2.2.length (rowsV opV e.1.2.2.2)
  makes : w.ownsRow 0 199 35 m.2.2 e.2.length (rowsV makeV e.2)
  idsOk : IdsOk e.1.2.1
  opsOk : ∀ x ∈ e.1.2.2.2, OpIn x
  keys : ∀ m ∈ e.2, KeyOk m.2
/-- How a state lies: its two maps' blocks, the claims' slice, where each document is and its runs' slice, each entry's slices. -/
structure StateL where
  bd : Nat
  bc : Nat
  nd : Nat
  vc : Value
  ptr : KeyD → Nat
  row : KeyD → Value
  em : List UInt8 → EntryM
structure StateAt (w : World) (B s : Nat) (S : StateD) (q : StateL) : Prop where
  box : w.heap[s]? = some (.cells [.map (some q.bd), q.vc, .map (some q.bc)].toArray 87 (0, 0))
  low : B ≤ s ∧ B ≤ q.bd ∧ B ≤ q.bc
  mapD : MapV w Tryz.prog 89 KeyOk keyL q.bd q.nd (fun k => (docAt S k).map fun _ => .pointer (some ⟨q.ptr k, 0, none⟩))
  mapC : MapV w Tryz.prog 41 IdOk idL q.bc S.2.2.length (fun i => (entryAt S i).map fun e => .agg (entryV e (q.em i)).toArray)
  ne : q.bd ≠ q.bc
  claims : w.ownsRow B 135 70 q.vc S.2.1.length (rowsV claimV S.2.1)
  claimsOk : ∀ c ∈ S.2.1, ClaimOk c
  docs : ∀ k d, docAt S k = some d → KeyOk k ∧ DocAt w B (q.ptr k) (q.row k) d
  apart : ∀ k k', (docAt S k).isSome = true → (docAt S k').isSome = true → k ≠ k' → ∀ j, DocX (q.ptr k) (q.row k) j → ¬ DocX (q.ptr k') (q.row k') j
  entries : ∀ i e, entryAt S i = some e → IdOk i ∧ EntryIn w e (q.em i)
theorem own_keepR {w w' : World} {base n sz : Nat} {e : TypeId} {v : Value} {xs : List Value} (h : w.ownsRow base e sz v n xs) (he : immB e = true) (hk : KeepR w w') : w'.ownsRow base e sz v n xs := by
  refine ⟨h.1, ?_⟩
  rcases h.2 with h0 | ⟨g, cap, cur, rfl, hg, hh, r⟩
  · exact .inl h0
  · exact .inr ⟨g, cap, cur, rfl, hg, (hk g cur e (0, 0) he hh).trans hh, r⟩
theorem EntryIn.keep {w w' : World} {e : EntryD} {m : EntryM} (h : EntryIn w e m) (hk : KeepR w w') : EntryIn w' e m :=
  ⟨h.time, own_keepR h.deps (by decide) hk, own_keepR h.ops (by decide) hk, own_keepR h.makes (by decide) hk, h.idsOk, h.opsOk, h.keys⟩
section
variable {w w' : World} {B s : Nat} {S : StateD} {q : StateL}
theorem StateAt.mapD_obj (h : StateAt w B s S q) : ∃ a b, w.heap[q.bd]? = some (.map a b) := by
  obtain ⟨D, ⟨es, clock, hb, _⟩, _⟩ := h.mapD
  exact ⟨_, _, hb⟩
theorem StateAt.mapC_obj (h : StateAt w B s S q) : ∃ a b, w.heap[q.bc]? = some (.map a b) := by
  obtain ⟨D, ⟨es, clock, hb, _⟩, _⟩ := h.mapC
  exact ⟨_, _, hb⟩
theorem DocAt.tagged {p : Nat} {v : Value} {d : List RunD} (h : DocAt w B p v d) {k : Nat} (hk : DocX p v k) : ∃ cur t, (t = 192 ∨ t = 177) ∧ w.heap[k]? = some (.cells cur t (0, 0)) := by
  rcases hk with rfl | hk
  · obtain ⟨s, t, hb⟩ := h.box
    exact ⟨_, _, .inl rfl, hb⟩
  · obtain ⟨rs, _, _, ho⟩ := h.rows
    obtain ⟨cur, hc⟩ := own_tagged ho hk
    exact ⟨cur, _, .inr rfl, hc⟩
/-- It stays where no block of its own turns. -/
theorem StateAt.keep (h : StateAt w B s S q) (hb : Below w.heap.size w w') : StateAt w' B s S q :=
  have hk := KeepR.below hb
  ⟨(hb.block s (qX h.box)).trans h.box, h.low, h.mapD.below hb, h.mapC.below hb, h.ne, (But.of_below (X := NoB) hb).own h.claims fun _ _ q => q, h.claimsOk, fun k d hd => ⟨(h.docs k d hd).1, (h.docs k d hd).2.keep hb⟩, h.apart, fun i e he => ⟨(h.entries i e he).1, (h.entries i e he).2.keep hk⟩⟩
/-- A document turns. -/
theorem StateAt.turn (h : StateAt w B s S q) {k : KeyD} {d d' : List RunD} {v' : Value} (hd : docAt S k = some d) (hb : But (DocX (q.ptr k) (q.row k)) w w') (hn : DocAt w' B (q.ptr k) v' d')
    (hw : ∀ j, v'.ownBlock = some j → (q.row k).ownBlock = some j ∨ w.heap.size ≤ j) :
    StateAt w' B s (setDoc S.1 k d', S.2) { q with row := fun x => if x = k then v' else q.row x } := by
  have hdk := (h.docs k d hd).2
  have hK := KeepR.but hb hdk.noRunes
  have hno : ∀ {b : Nat} {c : Array Value} {t : TypeId} {f : Nat × Nat}, w.heap[b]? = some (.cells c t f) → t ≠ 192 → t ≠ 177 → ¬ DocX (q.ptr k) (q.row k) b := fun hb1 h1 h2 hx => by
    obtain ⟨cur, t2, ht, hc⟩ := hdk.tagged hx
    exact ne_tag hb1 hc (by rcases ht with rfl | rfl <;> assumption) rfl
  have hnm : ∀ {b : Nat}, (∃ x y, w.heap[b]? = some (.map x y)) → ¬ DocX (q.ptr k) (q.row k) b := fun hb1 hx => by
    obtain ⟨cur, t2, ht, hc⟩ := hdk.tagged hx
    exact ne_map hc hb1 rfl
  have hsome : (docAt S k).isSome = true := by rw [hd]; rfl
  have hset : ∀ x, docAt (setDoc S.1 k d', S.2) x = if x = k then some d' else docAt S x := fun x => docAt_set S k d' S.2 x
  refine ⟨(hb.block s (qX h.box) (hno h.box (by decide) (by decide))).trans h.box, h.low, ?_, ?_, h.ne, ?_, h.claimsOk, ?_, ?_, ?_⟩
  · have := hb.map h.mapD (hnm h.mapD_obj)
    have e : (fun x => (docAt (setDoc S.1 k d', S.2) x).map fun _ => Value.pointer (some ⟨q.ptr x, 0, none⟩)) = fun x => (docAt S x).map fun _ => Value.pointer (some ⟨q.ptr x, 0, none⟩) := by
      funext x
      rw [hset]
      split
      · rename_i e; subst e; rw [hd]; rfl
      · rfl
    show MapV w' _ _ _ _ _ q.nd _
    rw [e]
    exact this
  · exact hb.map h.mapC (hnm h.mapC_obj)
  · refine hb.own h.claims fun g hg => ?_
    obtain ⟨cur, hc⟩ := own_tagged h.claims hg
    exact hno hc (by decide) (by decide)
  · intro x y hx
    rw [hset] at hx
    split at hx
    · rename_i e
      subst e
      cases hx
      exact ⟨(h.docs _ _ hd).1, by simpa using hn⟩
    · rename_i e
      have := h.docs x y hx
      refine ⟨this.1, ?_⟩
      simp only [if_neg e]
      exact this.2.but hb (fun j hj hj2 => h.apart x k (by rw [hx]; rfl) hsome e j hj hj2) hK
  · intro x y hx hy hne j hj hj2
    rw [hset] at hx hy
    have hold : ∀ {z : KeyD}, z ≠ k → (docAt S z).isSome = true → DocX (q.ptr z) (if z = k then v' else q.row z) j → DocX (q.ptr z) (q.row z) j := fun hz _ hq => by rw [if_neg hz] at hq; exact hq
    have hnew : DocX (q.ptr k) v' j → DocX (q.ptr k) (q.row k) j ∨ w.heap.size ≤ j := fun hq => by
      rcases hq with hq | hq
      · exact .inl (.inl hq)
      · rcases hw j hq with hq | hq
        · exact .inl (.inr hq)
        · exact .inr hq
    have hsz : ∀ {z : KeyD}, (docAt S z).isSome = true → DocX (q.ptr z) (q.row z) j → j < w.heap.size := fun hz hq => by
      obtain ⟨dz, hdz⟩ := Option.isSome_iff_exists.1 hz
      obtain ⟨cur, t, _, hc⟩ := ((h.docs _ _ hdz).2).tagged hq
      exact qX hc
    simp only at hj hj2
    by_cases hxk : x = k
    · have hyk : y ≠ k := fun e => hne (hxk.trans e.symm)
      rw [if_neg hyk] at hy
      subst hxk
      rw [if_pos rfl] at hj
      have h2 := hold hyk hy hj2
      rcases hnew hj with h1 | h1
      · exact h.apart x y hsome hy hne j h1 h2
      · have := hsz hy h2; omega
    · rw [if_neg hxk] at hx
      have h1 := hold hxk hx hj
      by_cases hyk : y = k
      · subst hyk
        rw [if_pos rfl] at hj2
        rcases hnew hj2 with h2 | h2
        · exact h.apart x y hx hsome hne j h1 h2
        · have := hsz hx h1; omega
      · rw [if_neg hyk] at hy
        exact h.apart x y hx hy hne j h1 (hold hyk hy hj2)
  · intro i e he
    have := h.entries i e he
    exact ⟨this.1, this.2.keep hK⟩
/-- No document's block is a map, a state, a claims' row, a new one. -/
theorem StateAt.apartDoc (h : StateAt w B s S q) {k : KeyD} (hk : (docAt S k).isSome = true) {j : Nat} (hj : DocX (q.ptr k) (q.row k) j) : j < w.heap.size ∧ j ≠ s ∧ j ≠ q.bd ∧ j ≠ q.bc ∧ q.vc.ownBlock ≠ some j := by
  obtain ⟨d, hd⟩ := Option.isSome_iff_exists.1 hk
  obtain ⟨cur, t, ht, hc⟩ := (h.docs k d hd).2.tagged hj
  refine ⟨qX hc, ne_tag hc h.box (by rcases ht with rfl | rfl <;> decide), ne_map hc h.mapD_obj, ne_map hc h.mapC_obj, fun e => ?_⟩
  obtain ⟨c2, h2⟩ := own_tagged h.claims e
  exact ne_tag hc h2 (by rcases ht with rfl | rfl <;> decide) rfl
/-- A turning of some blocks of the state's own that are no document's keeps what it has of ids, operations, runes. -/
theorem StateAt.keepX (h : StateAt w B s S q) {X : Nat → Prop} (hb : But X w w') (hx : ∀ j, X j → j = s ∨ j = q.bd ∨ j = q.bc ∨ q.vc.ownBlock = some j) : KeepR w w' ∧ ∀ k d, docAt S k = some d → DocAt w' B (q.ptr k) (q.row k) d := by
  have hK : KeepR w w' := KeepR.but hb fun j hj cur t fr ht hc => by
    rcases hx j hj with rfl | rfl | rfl | hj
    · exact ne_tag hc h.box (by rintro rfl; exact absurd ht (by decide)) rfl
    · exact ne_map hc h.mapD_obj rfl
    · exact ne_map hc h.mapC_obj rfl
    · obtain ⟨c2, h2⟩ := own_tagged h.claims hj
      exact ne_tag hc h2 (by rintro rfl; exact absurd ht (by decide)) rfl
  refine ⟨hK, fun k d hd => (h.docs k d hd).2.but hb (fun j hj hj2 => ?_) hK⟩
  obtain ⟨_, h1, h2, h3, h4⟩ := h.apartDoc (k := k) (by rw [hd]; rfl) hj
  rcases hx j hj2 with q | q | q | q
  · exact h1 q
  · exact h2 q
  · exact h3 q
  · exact h4 q
theorem StateAt.sep (h : StateAt w B s S q) : s ≠ q.bd ∧ s ≠ q.bc ∧ q.vc.ownBlock ≠ some s ∧ q.vc.ownBlock ≠ some q.bd ∧ q.vc.ownBlock ≠ some q.bc := by
  refine ⟨ne_map h.box h.mapD_obj, ne_map h.box h.mapC_obj, fun e => ?_, fun e => ?_, fun e => ?_⟩
  · obtain ⟨c2, h2⟩ := own_tagged h.claims e
    exact ne_tag h2 h.box (by decide) rfl
  · obtain ⟨c2, h2⟩ := own_tagged h.claims e
    exact ne_map h2 h.mapD_obj rfl
  · obtain ⟨c2, h2⟩ := own_tagged h.claims e
    exact ne_map h2 h.mapC_obj rfl
/-- A claim more. -/
theorem StateAt.putClaim (h : StateAt w B s S q) {c : ClaimD} {v' : Value} (hc : ClaimOk c) (ho : w'.ownsRow B 135 70 v' (S.2.1.length + 1) (rowsV claimV S.2.1 ++ claimV c))
    (hbx : w'.heap[s]? = some (.cells [.map (some q.bd), v', .map (some q.bc)].toArray 87 (0, 0))) (hb : But (fun j => j = s ∨ q.vc.ownBlock = some j) w w') : StateAt w' B s (S.1, S.2.1 ++ [c], S.2.2) { q with vc := v' } := by
  obtain ⟨hK, hD⟩ := h.keepX hb fun j hj => hj.elim .inl fun hj => .inr (.inr (.inr hj))
  obtain ⟨n1, n2, n3, n4, n5⟩ := h.sep
  refine ⟨hbx, h.low, hb.map h.mapD (fun e => e.elim (fun e => n1 e.symm) n4), hb.map h.mapC (fun e => e.elim (fun e => n2 e.symm) n5), h.ne, ?_, fun x hx => ?_, fun k d hd => ⟨(h.docs k d hd).1, hD k d hd⟩, h.apart, fun i e he => ⟨(h.entries i e he).1, (h.entries i e he).2.keep hK⟩⟩
  · show w'.ownsRow B _ 70 v' (S.2.1 ++ [c]).length (rowsV claimV (S.2.1 ++ [c]))
    rw [List.length_append, List.length_singleton, show rowsV claimV (S.2.1 ++ [c]) = rowsV claimV S.2.1 ++ claimV c by simp [rowsV]]
    exact ho
  · rcases List.mem_append.1 hx with hx | hx
    · exact h.claimsOk x hx
    · rw [List.mem_singleton.1 hx]; exact hc
/-- An entry more. -/
theorem StateAt.putEntry (h : StateAt w B s S q) {i : List UInt8} {e : EntryD} {m : EntryM} (hi : IdOk i) (hn : entryAt S i = none) (he : EntryIn w e m)
    (hm : MapV w' Tryz.prog 41 IdOk idL q.bc (S.2.2.length + 1) (fun x => if x = i then some (.agg (entryV e m).toArray) else (entryAt S x).map fun e => .agg (entryV e (q.em x)).toArray)) (hb : But (fun j => j = q.bc) w w') :
    StateAt w' B s (S.1, S.2.1, S.2.2 ++ [(i, e)]) { q with em := fun x => if x = i then m else q.em x } := by
  obtain ⟨hK, hD⟩ := h.keepX hb fun j hj => .inr (.inr (.inl hj))
  obtain ⟨n1, n2, n3, n4, n5⟩ := h.sep
  have hE : ∀ x, entryAt (S.1, S.2.1, S.2.2 ++ [(i, e)]) x = if x = i then some e else entryAt S x := fun x => by
    unfold entryAt
    rw [List.find?_append]
    by_cases hx : x = i
    · subst hx
      unfold entryAt at hn
      rw [Option.map_eq_none_iff] at hn
      rw [if_pos rfl, hn]
      simp
    · rw [if_neg hx]
      have : decide (i = x) = false := decide_eq_false fun e => hx e.symm
      simp [this]
  refine ⟨(hb.block s (qX h.box) n2).trans h.box, h.low, hb.map h.mapD h.ne, ?_, h.ne, hb.own h.claims fun g hg e => n5 (by rw [hg, e]), h.claimsOk, fun k d hd => ⟨(h.docs k d hd).1, hD k d hd⟩, h.apart, fun x y hy => ?_⟩
  · show MapV w' _ _ _ _ _ (S.2.2 ++ [(i, e)]).length _
    rw [List.length_append, List.length_singleton]
    have e1 : (fun x => (entryAt (S.1, S.2.1, S.2.2 ++ [(i, e)]) x).map fun e => Value.agg (entryV e (if x = i then m else q.em x)).toArray) = fun x => if x = i then some (.agg (entryV e m).toArray) else (entryAt S x).map fun e => .agg (entryV e (q.em x)).toArray := by
      funext x
      rw [hE]
      split <;> rfl
    rw [e1]
    exact hm
  · rw [hE] at hy
    split at hy
    · rename_i e1
      subst e1
      cases hy
      exact ⟨hi, by simpa using he.keep hK⟩
    · rename_i e1
      have := h.entries x y hy
      simp only [if_neg e1]
      exact ⟨this.1, this.2.keep hK⟩
/-- A document more. -/
theorem StateAt.putDoc (h : StateAt w B s S q) {k : KeyD} {p : Nat} (hk : KeyOk k) (hp : DocAt w B p (.slice none 0 0) []) (hf : ∀ x, (docAt S x).isSome = true → ¬ DocX (q.ptr x) (q.row x) p)
    (hm : MapV w' Tryz.prog 89 KeyOk keyL q.bd (q.nd + 1) (fun x => if x = k then some (.pointer (some ⟨p, 0, none⟩)) else (docAt S x).map fun _ => .pointer (some ⟨q.ptr x, 0, none⟩))) (hb : But (fun j => j = q.bd) w w') :
    StateAt w' B s (setDoc S.1 k [], S.2) { q with nd := q.nd + 1, ptr := fun x => if x = k then p else q.ptr x, row := fun x => if x = k then .slice none 0 0 else q.row x } := by
  obtain ⟨hK, hD⟩ := h.keepX hb fun j hj => .inr (.inl hj)
  obtain ⟨n1, n2, n3, n4, n5⟩ := h.sep
  have hset : ∀ x, docAt (setDoc S.1 k [], S.2) x = if x = k then some [] else docAt S x := fun x => docAt_set S k [] S.2 x
  have hpd : p ≠ q.bd := by
    obtain ⟨a, b, hb1⟩ := hp.box
    exact ne_map hb1 h.mapD_obj
  refine ⟨(hb.block s (qX h.box) n1).trans h.box, h.low, ?_, hb.map h.mapC (fun e => h.ne e.symm), h.ne, hb.own h.claims fun g hg e => n4 (by rw [hg, e]), h.claimsOk, ?_, ?_, fun i e he => ⟨(h.entries i e he).1, (h.entries i e he).2.keep hK⟩⟩
  · have e1 : (fun x => (docAt (setDoc S.1 k [], S.2) x).map fun _ => Value.pointer (some ⟨if x = k then p else q.ptr x, 0, none⟩)) = fun x => if x = k then some (.pointer (some ⟨p, 0, none⟩)) else (docAt S x).map fun _ => .pointer (some ⟨q.ptr x, 0, none⟩) := by
      funext x
      rw [hset]
      split
      · rfl
      · rfl
    show MapV w' _ _ _ _ _ (q.nd + 1) _
    rw [e1]
    exact hm
  · intro x y hx
    rw [hset] at hx
    split at hx
    · rename_i e
      subst e
      cases hx
      refine ⟨hk, ?_⟩
      simp only [if_pos]
      exact hp.but hb (fun j hj e => by
        rcases hj with hj | hj
        · exact hpd (hj.symm.trans e)
        · cases hj) hK
    · rename_i e
      refine ⟨(h.docs x y hx).1, ?_⟩
      simp only [if_neg e]
      exact hD x y hx
  · intro x y hx hy hne j hj hj2
    rw [hset] at hx hy
    have hP : ∀ {j}, DocX p (.slice none 0 0) j → j = p := fun hj => by
      rcases hj with hj | hj
      · exact hj
      · cases hj
    simp only at hj hj2
    by_cases hxk : x = k
    · have hyk : y ≠ k := fun e => hne (hxk.trans e.symm)
      rw [if_pos hxk, if_pos hxk] at hj
      rw [if_neg hyk] at hy
      rw [if_neg hyk, if_neg hyk] at hj2
      rw [hP hj] at hj2
      exact hf y hy hj2
    · rw [if_neg hxk] at hx
      rw [if_neg hxk, if_neg hxk] at hj
      by_cases hyk : y = k
      · rw [if_pos hyk, if_pos hyk] at hj2
        rw [hP hj2] at hj
        exact hf x hx hj
      · rw [if_neg hyk] at hy
        rw [if_neg hyk, if_neg hyk] at hj2
        exact h.apart x y hx hy hne j hj hj2
end
end Go.Proofs.YtdgbjhfkmembdaaGreatDoor
