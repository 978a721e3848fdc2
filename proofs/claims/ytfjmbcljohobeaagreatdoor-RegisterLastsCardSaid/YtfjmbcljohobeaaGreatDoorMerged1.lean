/-
  Lists of data as a slice's cells, each element some cells wide; such a slice read from what came in. Over any program; conditions as each says.
  What paths documents have by any claims, as plain functions. No conditions; no program.
  Claims and named documents of the register as cells: read from what came in, compared cell by cell, put together. Conditions: the values are well formed, as each says.
  What the register's functions give: good, Right. Conditions: claims well formed; at most 2^40 of them; the library's variable MaxLen holds a number.
  Why files may not be a tree, as a plain function; files of a tree are one without any one of them, and with two of them changed about. No conditions; no program.
  What the reference's Runes and Is give, and the two Bytes of layer 7. Condition: a text of at most 2^40 bytes (Runes makes a list).
  What the program's Tree gives. Conditions: texts of at most 2^47 bytes; the library's variable MaxLen holds a number.
  What the register's lasts gives: a map of each document's last claim. Conditions: claims well formed; at most 2^40 of them.
  maps.Keys at the register's map: its iterator hands out every key once, in some order. Condition: the map is one that the call made.
  slices.Collect of the keys of the register's map: all keys, each once, in some order. Condition: the map is one that the call made, with at most 2^40 keys.
  A row of several-cell elements that the call owns, sorted by the library: between two vocabularies. Over any program; conditions as each says.
  What contracts of Go's library ask of the program, laid at this program by the kit's tools. Conditions: none.
  slices.SortedFunc over the keys of the register's map: the keys in their order. Condition: the map is one that the call made, with at most 2^40 keys.
  'm[k] op= x' as the model has it: the entry, then the store, over the view of a map. Over any program; conditions as each says.
  What the register's Right gives. Conditions: claims well formed; at most 2^40 of them; the library's variable MaxLen holds a number. (Under way.)
  What a fresh path is: the path itself, or a candidate; its length. No conditions; no program.
  The paths that documents have, one document more; rows of unlike elements stand apart. No conditions; no program.
-/
import Derived.Test.YtfjmbcljohobeaaGreatDoorFiles
import Derived.Test.YtfjmbcljohobeaaGreatDoorIdsSpec
import Derived.Test.YtfjmbcljohobeaaGreatDoorKeySpec
import Derived.Test.YtfjmbcljohobeaaGreatDoorFreshSpec
import Derived.Test.YtfjmbcljohobeaaGreatDoorKeyCells
import Derived.Test.YtfjmbcljohobeaaGreatDoorBuild
import Derived.Test.YtfjmbcljohobeaaGreatDoorKeyWalks
import Derived.Test.YtfjmbcljohobeaaGreatDoorKeyMap
import Derived.Test.YtfjmbcljohobeaaGreatDoorPathNames
import Derived.Test.YtfjmbcljohobeaaGreatDoorUtfRefWalks
import Derived.Test.YtfjmbcljohobeaaGreatDoorMem
import Derived.Carry
import Derived.Test.YtfjmbcljohobeaaGreatDoorIterIn
import Derived.Test.YtfjmbcljohobeaaGreatDoorGr
import Derived.Shelf.SlSortCmp.NoneTotal
import Derived.Shelf.SlGeneric
import Derived.Ground.SlsfProg
import Derived.Test.YtfjmbcljohobeaaGreatDoorProg
import Derived.Test.YtfjmbcljohobeaaGreatDoorMapView
import Derived.Test.YtfjmbcljohobeaaGreatDoorQStep
import Derived.WideKeyEntry
import Derived.OrdersHeld
import Derived.Test.YtfjmbcljohobeaaGreatDoorFreshWalks
namespace Go.Proofs.YtfjmbcljohobeaaGreatDoor
open Go.RowKit Go.ChangeShapes Go.WideShapes Go.ChangeAt
set_option linter.unusedVariables false

section
variable {α : Type} {enc : α → List Value} {sz : Nat}
def rowsV (enc : α → List Value) (l : List α) : List Value := l.flatMap enc
theorem rowsV_length : ∀ {l : List α}, (∀ x ∈ l, (enc x).length = sz) → (rowsV enc l).length = l.length * sz
  | [], _ => by simp [rowsV]
  | a :: l, h => by
    have h1 := h a (by simp)
    have h2 := rowsV_length (l := l) fun x hx => h x (by simp [hx])
    simp only [rowsV, List.flatMap_cons, List.length_append, List.length_cons] at h2 ⊢
    rw [h1, h2, Nat.add_mul]; omega
theorem rowsV_app (a b : List α) : rowsV enc (a ++ b) = rowsV enc a ++ rowsV enc b := by simp [rowsV]
theorem rowsV_one (h1 : ∀ x, ∀ u ∈ enc x, u.oneCell' = true) (l : List α) : ∀ u ∈ rowsV enc l, u.oneCell' = true := by
  intro u hu
  obtain ⟨a, _, ha⟩ := List.mem_flatMap.1 hu
  exact h1 a u ha
theorem rowsV_get : ∀ {l : List α}, (∀ x ∈ l, (enc x).length = sz) → ∀ (i : Nat) (h : i < l.length) (j : Nat) (u : Value), (enc l[i])[j]? = some u → (rowsV enc l)[i * sz + j]? = some u
  | [], _, _, h, _, _, _ => by cases h
  | a :: l, ho, 0, _, j, u, hj => by
    have h1 : (enc a).length = sz := ho a (by simp)
    have hlt := (List.getElem?_eq_some_iff.1 hj).1
    simp only [rowsV, List.flatMap_cons, Nat.zero_mul, Nat.zero_add]
    rw [List.getElem?_append_left (by simpa using hlt)]
    exact hj
  | a :: l, ho, i + 1, h, j, u, hj => by
    have h1 : (enc a).length = sz := ho a (by simp)
    have := rowsV_get (l := l) (fun x hx => ho x (by simp [hx])) i (by simpa using h) j u (by simpa using hj)
    simp only [rowsV, List.flatMap_cons] at this ⊢
    rw [List.getElem?_append_right (by rw [h1, Nat.add_mul]; omega), h1, show (i + 1) * sz + j - sz = i * sz + j by rw [Nat.add_mul]; omega]
    exact this
theorem Sl.row {w : World} {b off : Nat} {l : List α} (ho : ∀ x ∈ l, (enc x).length = sz) (h : ∀ j u, (rowsV enc l)[j]? = some u → w.cell? ⟨b, off + j, none⟩ = some u) {i : Nat} (hi : i < l.length) : ∀ j u, (enc l[i])[j]? = some u → w.cell? ⟨b, off + i * sz + j, none⟩ = some u := by
  intro j u hj
  rw [Nat.add_assoc]
  exact h _ _ (rowsV_get ho i hi j u hj)
end

/-- Cells read together stand one by one. -/
theorem open_rows {H : Type} {encH : TypeId × Value → H} {P : Program} {W : World} {t e : TypeId} {α : Type} [Inhabited α] {enc : α → List Value} {ok : α → Prop} {sz : Nat} (ht : P.underlying t = some (.slice e)) (hce : P.cellsOf e = sz) (hsz : 0 < sz) (hlen : ∀ x, ok x → (enc x).length = sz)
    (dec : ∀ n cs x, DataW.trod encH P W 0 (fun _ => true) true n e cs = some x → ∃ c : α, ok c ∧ cs = enc c)
    {a : Option Addr} {len cap : Nat} {d : DataW H} {ps : List MemPlace} (h : DataW.Trod encH P W 0 (fun _ => true) true t (.slice a len cap) d ps) :
    ∃ l : List α, l.length = len ∧ len ≤ maxLen ∧ len ≤ cap ∧ (∀ c ∈ l, ok c) ∧ Sl W W.heap.size a l.length sz (rowsV enc l) := by
  obtain ⟨fuel, hf⟩ := h
  rcases Go.Deep.open_slice ht hf with ⟨hcs, _⟩ | ⟨x, ln, c, m, n, D, Pl, hcs, _, hl, hm, hmm, hdx, hx⟩
  · simp [Value.cells] at hcs
    obtain ⟨rfl, rfl, rfl⟩ := hcs
    exact ⟨[], rfl, by unfold maxLen; omega, by omega, fun t ht => absurd ht (by simp), Sl.nil⟩
  · simp [Value.cells] at hcs
    obtain ⟨rfl, rfl, rfl⟩ := hcs
    have hmc : m = cap := by simpa using hmm
    subst hmc
    have each : ∀ i, i < len → ∃ q : α, ok q ∧ W.cells? 0 (x.add (i * sz)) sz = some (enc q) := by
      intro i hi
      obtain ⟨cs', h1, h2⟩ := hx i (by omega)
      obtain ⟨q, hq, rfl⟩ := dec _ _ _ h2
      rw [hce] at h1
      exact ⟨q, hq, h1⟩
    obtain ⟨F, hF⟩ := Go.Deep.choose_lt each
    have hok : ∀ c ∈ (List.range len).map F, ok c := by
      intro c hc
      obtain ⟨i, hi, rfl⟩ := List.mem_map.1 hc
      exact (hF i (by simpa using hi)).1
    have hlens : ∀ c ∈ (List.range len).map F, (enc c).length = sz := fun c hc => hlen c (hok c hc)
    refine ⟨(List.range len).map F, by simp, by omega, hl, hok, rowsV_length hlens, fun h0 => ?_⟩
    have hln : ((List.range len).map F).length = len := by simp
    rw [hln] at h0
    obtain ⟨b, off, spot⟩ := x
    have hcell : ∀ i, i < len → ∀ k, k < sz → W.cell? ((⟨b, off, spot⟩ : Addr).add (i * sz + k)) = (enc (F i))[k]? := by
      intro i hi k hk
      obtain ⟨_, hlen', hc⟩ := World.cells?_some (hF i hi).2
      have := hc k hk
      rw [Go.Deep.add_add] at this
      exact this
    have hc0 := hcell 0 h0 0 hsz
    have hv0 : ∃ v, (enc (F 0))[0]? = some v := ⟨_, List.getElem?_eq_getElem (by rw [hlen _ (hF 0 h0).1]; exact hsz)⟩
    obtain ⟨v0, hv0⟩ := hv0
    rw [hv0] at hc0
    obtain rfl : spot = none := by simpa [Addr.add] using World.cell?_spot hc0
    have hblk : b < W.heap.size := by
      have hc1 : W.cell? ⟨b, off, none⟩ = some v0 := by simpa [Addr.add] using hc0
      rcases Nat.lt_or_ge b W.heap.size with q | q
      · exact q
      · unfold World.cell? at hc1
        rw [Array.getElem?_eq_none q] at hc1
        cases hc1
    refine ⟨b, off, rfl, hblk, fun j u hu => ?_⟩
    have hj := (List.getElem?_eq_some_iff.1 hu).1
    rw [rowsV_length hlens, hln] at hj
    have hi : j / sz < len := (Nat.div_lt_iff_lt_mul hsz).2 hj
    have hk : j % sz < sz := Nat.mod_lt _ hsz
    have hjs : j / sz * sz + j % sz = j := by rw [Nat.mul_comm]; exact Nat.div_add_mod j sz
    have hc := hcell (j / sz) hi (j % sz) hk
    rw [hjs, addr_add] at hc
    obtain ⟨v, hv⟩ : ∃ v, (enc (F (j / sz)))[j % sz]? = some v := ⟨_, List.getElem?_eq_getElem (by rw [hlen _ (hF _ hi).1]; exact hk)⟩
    have hg := rowsV_get hlens (j / sz) (by rw [hln]; exact hi) (j % sz) v (by simpa using hv)
    rw [hjs, hu] at hg
    rw [hc, hv, Option.some.inj hg]
end Go.Proofs.YtfjmbcljohobeaaGreatDoor
namespace Go.Proofs.YtfjmbcljohobeaaGreatDoor

/-- A claim: its key, its document, its kind, its path. -/
abbrev ClaimD := KeyD × KeyD × Nat × ByteArray
def goodB (k : Nat) (p : ByteArray) : Bool := if k = 3 ∨ k = 4 then pathB p else if k = 5 then decide (p.size = 0) else false
def RightP (l : List ClaimD) : Prop := (∀ c ∈ l, goodB c.2.2.1 c.2.2.2 = true) ∧ (l.map (·.1)).Nodup
instance (l : List ClaimD) : Decidable (RightP l) := by unfold RightP; infer_instance
def rightB (l : List ClaimD) : Bool := decide (RightP l)

/-- A document's last claim. -/
def later (d : KeyD) (a : Option ClaimD) (c : ClaimD) : Option ClaimD :=
  if c.2.1 = d then (match a with | none => some c | some w => if 0 < cmpK c.1 w.1 then some c else some w) else a
def lastOf (l : List ClaimD) (d : KeyD) : Option ClaimD := l.foldl (later d) none
theorem lastOf_snoc (l : List ClaimD) (c : ClaimD) (d : KeyD) : lastOf (l ++ [c]) d = later d (lastOf l d) c := by simp [lastOf]

theorem lastOf_ne {d : KeyD} {x : ClaimD} {l : List ClaimD} (h1 : x ∈ l) (h2 : x.2.1 = d) : lastOf l d ≠ none := by
  suffices h : ∀ (l : List ClaimD) (a : Option ClaimD), (a ≠ none ∨ (x ∈ l ∧ x.2.1 = d)) → l.foldl (later d) a ≠ none from h l none (.inr ⟨h1, h2⟩)
  intro l
  induction l with
  | nil => exact fun a h => h.elim id (fun h => absurd h.1 (by simp))
  | cons y l ih =>
    intro a h
    rw [List.foldl_cons]
    apply ih
    rcases h with h | ⟨h, hd⟩
    · left
      unfold later
      split
      · split
        · simp
        · split <;> simp
      · exact h
    · rcases List.mem_cons.1 h with rfl | h
      · left
        unfold later
        rw [if_pos hd]
        split
        · simp
        · split <;> simp
      · exact .inr ⟨h, hd⟩
theorem lastOf_is {l : List ClaimD} {d : KeyD} {c : ClaimD} (h0 : lastOf l d = some c) : c ∈ l ∧ c.2.1 = d ∧ ∀ x ∈ l, x.2.1 = d → cmpK x.1 c.1 ≤ 0 := by
  suffices h : ∀ (n : Nat) (l : List ClaimD), l.length ≤ n → ∀ c, lastOf l d = some c → c ∈ l ∧ c.2.1 = d ∧ ∀ x ∈ l, x.2.1 = d → cmpK x.1 c.1 ≤ 0 from h _ l (Nat.le_refl _) c h0
  intro n
  induction n with
  | zero =>
    intro l hl c h
    rw [List.length_eq_zero_iff.1 (by omega : l.length = 0)] at h
    cases h
  | succ n ih =>
    intro l hl c h
    rcases List.eq_nil_or_concat l with e | ⟨l', y, e⟩
    · rw [e] at h; cases h
    · rw [List.concat_eq_append] at e
      subst e
      have hl' : l'.length ≤ n := by simp at hl; omega
      rw [lastOf_snoc] at h
      unfold later at h
      split at h
      · rename_i hd
        split at h
        · rename_i hn
          cases h
          refine ⟨by simp, hd, fun x hx hxd => ?_⟩
          rcases List.mem_append.1 hx with hx | hx
          · have : lastOf l' d ≠ none := lastOf_ne hx hxd
            exact absurd hn this
          · simp at hx; subst hx; rw [cmpK_self]; exact Int.le_refl _
        · rename_i w hw
          obtain ⟨g1, g2, g3⟩ := ih l' hl' w hw
          split at h
          · rename_i hc
            cases h
            refine ⟨by simp, hd, fun x hx hxd => ?_⟩
            rcases List.mem_append.1 hx with hx | hx
            · have h3 := g3 x hx hxd
              rcases cmpK_cases x.1 w.1 with e | e | e
              · have := cmpK_trans e (cmpK_pos.1 hc); omega
              · rw [e]; have := cmpK_pos.1 hc; omega
              · have := cmpK_pos.2 e; omega
            · simp at hx; subst hx; rw [cmpK_self]; exact Int.le_refl _
          · rename_i hc
            cases h
            refine ⟨by simp [g1], g2, fun x hx hxd => ?_⟩
            rcases List.mem_append.1 hx with hx | hx
            · exact g3 x hx hxd
            · simp at hx; subst hx; omega
      · rename_i hd
        obtain ⟨g1, g2, g3⟩ := ih l' hl' c h
        refine ⟨by simp [g1], g2, fun x hx hxd => ?_⟩
        rcases List.mem_append.1 hx with hx | hx
        · exact g3 x hx hxd
        · simp at hx; subst hx; exact absurd hxd hd
theorem lastOf_some {l : List ClaimD} {d : KeyD} {x : ClaimD} (h : x ∈ l) (hd : x.2.1 = d) : ∃ c, lastOf l d = some c := by
  rcases e : lastOf l d with _ | c
  · exact absurd e (lastOf_ne h hd)
  · exact ⟨c, rfl⟩
theorem lastOf_none {l : List ClaimD} {d : KeyD} : lastOf l d = none ↔ d ∉ l.map (·.2.1) := by
  constructor
  · intro h hm
    obtain ⟨x, hx, rfl⟩ := List.mem_map.1 hm
    obtain ⟨c, hc⟩ := lastOf_some hx rfl
    rw [hc] at h; cases h
  · intro h
    rcases e : lastOf l d with _ | c
    · rfl
    · obtain ⟨h1, h2, _⟩ := lastOf_is e
      exact absurd (List.mem_map.2 ⟨c, h1, h2⟩) h
/-- With keys of their own, the last claim is the one with the greatest key. -/
theorem lastOf_eq {l : List ClaimD} (hn : (l.map (·.1)).Nodup) {d : KeyD} {c : ClaimD} (h1 : c ∈ l) (h2 : c.2.1 = d) (h3 : ∀ x ∈ l, x.2.1 = d → cmpK x.1 c.1 ≤ 0) : lastOf l d = some c := by
  obtain ⟨w, hw⟩ := lastOf_some h1 h2
  obtain ⟨g1, g2, g3⟩ := lastOf_is hw
  have e1 := g3 c h1 h2
  have e2 := h3 w g1 g2
  have hk : w.1 = c.1 := by
    rcases cmpK_cases w.1 c.1 with e | e | e
    · have := cmpK_pos.2 e; omega
    · exact e
    · have := cmpK_pos.2 e; omega
  have : w = c := by
    obtain ⟨i, hi, rfl⟩ := List.getElem_of_mem g1
    obtain ⟨j, hj, rfl⟩ := List.getElem_of_mem h1
    have hp := List.pairwise_iff_getElem.1 hn
    rcases (by omega : i < j ∨ i = j ∨ j < i) with e | e | e
    · exact absurd (by rw [List.getElem_map, List.getElem_map]; exact hk) (hp i j (by simpa using hi) (by simpa using hj) e)
    · subst e; rfl
    · exact absurd (by rw [List.getElem_map, List.getElem_map]; exact hk.symm) (hp j i (by simpa using hj) (by simpa using hi) e)
  rw [hw, this]

/-- The documents in order, their paths. -/
def docsS (l : List ClaimD) : List KeyD := sortK (l.map (·.2.1))
def pathsGo (f : KeyD → Option ClaimD) : List KeyD → List (List UInt8) → List (KeyD × List UInt8)
  | [], _ => []
  | d :: r, taken => match f d with
    | some c => if c.2.2.1 = 5 then pathsGo f r taken else (d, freshS (L c.2.2.2) taken) :: pathsGo f r (taken ++ [freshS (L c.2.2.2) taken])
    | none => pathsGo f r taken
def pathsS (l : List ClaimD) : List (KeyD × List UInt8) := if rightB l then pathsGo (lastOf l) (docsS l) [] else []
def findS (l : List ClaimD) (p : List UInt8) : Option KeyD := ((pathsS l).find? fun n => n.2 == p).map (·.1)

theorem rightB_iff {l : List ClaimD} : rightB l = true ↔ RightP l := by simp [rightB]
theorem rightB_perm {l m : List ClaimD} (h : l.Perm m) : rightB l = rightB m := by
  rw [Bool.eq_iff_iff, rightB_iff, rightB_iff]
  unfold RightP
  rw [(h.map (·.1)).nodup_iff]
  constructor
  · rintro ⟨h1, h2⟩; exact ⟨fun c hc => h1 c (h.mem_iff.2 hc), h2⟩
  · rintro ⟨h1, h2⟩; exact ⟨fun c hc => h1 c (h.mem_iff.1 hc), h2⟩
theorem lastOf_perm {l m : List ClaimD} (h : l.Perm m) (hn : (l.map (·.1)).Nodup) (d : KeyD) : lastOf l d = lastOf m d := by
  rcases e : lastOf l d with _ | c
  · rw [lastOf_none] at e
    exact ((lastOf_none (l := m)).2 fun hm => e ((h.map (·.2.1)).mem_iff.2 hm)).symm
  · obtain ⟨h1, h2, h3⟩ := lastOf_is e
    exact (lastOf_eq ((h.map (·.1)).nodup_iff.1 hn) (h.mem_iff.1 h1) h2 (fun x hx => h3 x (h.mem_iff.2 hx))).symm
theorem docsS_perm {l m : List ClaimD} (h : l.Perm m) : docsS l = docsS m :=
  Rising.ext (sortK_rising _) (sortK_rising _) fun k => by
    unfold docsS
    rw [mem_sortK, mem_sortK]
    exact (h.map (·.2.1)).mem_iff
/-- In which order claims are listed makes no difference. -/
theorem pathsS_perm {l m : List ClaimD} (h : l.Perm m) : pathsS l = pathsS m := by
  unfold pathsS
  rw [rightB_perm h]
  split
  · rename_i hr
    rw [← rightB_perm h, rightB_iff] at hr
    rw [docsS_perm h, show lastOf l = lastOf m from funext (lastOf_perm h hr.2)]
  · rfl

theorem pathsGo_docs (f : KeyD → Option ClaimD) : ∀ (ds : List KeyD) (taken : List (List UInt8)), (pathsGo f ds taken).map (·.1) = ds.filter fun d => match f d with | some c => !decide (c.2.2.1 = 5) | none => false
  | [], _ => rfl
  | d :: r, taken => by
    unfold pathsGo
    rw [List.filter_cons]
    rcases hf : f d with _ | c
    · simp [pathsGo_docs f r taken]
    · by_cases hk : c.2.2.1 = 5
      · simp [hk, pathsGo_docs f r taken]
      · simp [hk, pathsGo_docs f r _]
theorem pathsGo_rising {f : KeyD → Option ClaimD} {ds : List KeyD} {taken : List (List UInt8)} (h : Rising ds) : Rising ((pathsGo f ds taken).map (·.1)) := by
  rw [pathsGo_docs]
  exact h.sublist List.filter_sublist
theorem pathsGo_apart (f : KeyD → Option ClaimD) : ∀ (ds : List KeyD) (taken : List (List UInt8)), ((pathsGo f ds taken).map (·.2)).Pairwise (fun a b => clashB b a = false) ∧ ∀ p ∈ (pathsGo f ds taken).map (·.2), clashesB p taken = false
  | [], _ => ⟨List.Pairwise.nil, fun p hp => by cases hp⟩
  | d :: r, taken => by
    unfold pathsGo
    rcases hf : f d with _ | c
    · exact pathsGo_apart f r taken
    · by_cases hk : c.2.2.1 = 5
      · simp only [hk, if_true]
        exact pathsGo_apart f r taken
      · simp only [hk, if_false]
        obtain ⟨h1, h2⟩ := pathsGo_apart f r (taken ++ [freshS (L c.2.2.2) taken])
        have hsplit : ∀ p, clashesB p (taken ++ [freshS (L c.2.2.2) taken]) = false → clashesB p taken = false ∧ clashB p (freshS (L c.2.2.2) taken) = false := by
          intro p h
          simpa [clashesB] using h
        refine ⟨?_, ?_⟩
        · rw [List.map_cons, List.pairwise_cons]
          exact ⟨fun p hp => (hsplit p (h2 p hp)).2, h1⟩
        · intro p hp
          rw [List.map_cons] at hp
          rcases List.mem_cons.1 hp with rfl | hp
          · exact fresh_clear _ _
          · exact (hsplit p (h2 p hp)).1
theorem clashB_self (a : List UInt8) : clashB a a = true := by simp [clashB]

theorem pathsS_rising (l : List ClaimD) : Rising ((pathsS l).map (·.1)) := by
  unfold pathsS
  split
  · exact pathsGo_rising (sortK_rising _)
  · exact List.Pairwise.nil
theorem pathsS_apart (l : List ClaimD) : ((pathsS l).map (·.2)).Pairwise (fun a b => clashB b a = false) := by
  unfold pathsS
  split
  · exact (pathsGo_apart _ _ _).1
  · exact List.Pairwise.nil
/-- Each path is found. -/
theorem findS_is (l : List ClaimD) {i : Nat} (hi : i < (pathsS l).length) : findS l (pathsS l)[i].2 = some (pathsS l)[i].1 := by
  have hp := pathsS_apart l
  unfold findS
  have : ((pathsS l).find? fun n => n.2 == (pathsS l)[i].2) = some (pathsS l)[i] := by
    rw [List.find?_eq_some_iff_getElem]
    refine ⟨by simp, i, hi, rfl, fun j hj => ?_⟩
    rw [List.pairwise_iff_getElem] at hp
    have := hp j i (by simp; omega) (by simpa using hi) hj
    simp only [List.getElem_map] at this
    simp only [Bool.not_eq_true', beq_eq_false_iff_ne, ne_eq]
    intro e
    rw [e, clashB_self] at this
    cases this
  rw [this]; rfl
/-- A claim behind all others decides. -/
theorem newest {l : List ClaimD} {x : ClaimD} (h : ∀ c ∈ l, cmpK c.1 x.1 < 0) (hr : rightB (l ++ [x]) = true) : lastOf (l ++ [x]) x.2.1 = some x ∧ (x.2.1 ∈ (pathsS (l ++ [x])).map (·.1) ↔ x.2.2.1 ≠ 5) := by
  have hR := rightB_iff.1 hr
  have hlast : lastOf (l ++ [x]) x.2.1 = some x := by
    refine lastOf_eq hR.2 (by simp) rfl fun y hy _ => ?_
    rcases List.mem_append.1 hy with hy | hy
    · have := h y hy; omega
    · simp at hy; subst hy; rw [cmpK_self]; exact Int.le_refl _
  refine ⟨hlast, ?_⟩
  unfold pathsS
  rw [hr, if_pos rfl, pathsGo_docs, List.mem_filter]
  unfold docsS
  rw [mem_sortK, hlast]
  simp
end Go.Proofs.YtfjmbcljohobeaaGreatDoor
namespace Go.Proofs.YtfjmbcljohobeaaGreatDoor
open Go.RowKit
set_option linter.unusedVariables false

def claimV (c : ClaimD) : List Value := keyV c.1 ++ (keyV c.2.1 ++ ([.int .u8 (c.2.2.1 : Int)] ++ [.string c.2.2.2]))
def ClaimOk (c : ClaimD) : Prop := KeyOk c.1 ∧ KeyOk c.2.1 ∧ c.2.2.1 < 256 ∧ c.2.2.2.size ≤ maxLen
theorem claimV_length {c : ClaimD} (h : ClaimOk c) : (claimV c).length = 70 := by
  simp [claimV, keyV_length h.1, keyV_length h.2.1]
theorem claimV_one (c : ClaimD) : ∀ u ∈ claimV c, u.oneCell' = true := by
  intro u hu
  simp only [claimV, List.mem_append, List.mem_singleton] at hu
  rcases hu with hu | hu | rfl | rfl
  · exact keyV_one _ u hu
  · exact keyV_one _ u hu
  · rfl
  · rfl
theorem keyV_length' (a b : KeyD) (h : IdOk a.2.1) (h' : IdOk b.2.1) : (keyV a).length = (keyV b).length := by
  unfold IdOk at h h'
  simp [keyV, idV, h, h']
theorem claimV_inj {a b : ClaimD} (ha : ClaimOk a) (hb : ClaimOk b) (h : claimV a = claimV b) : a = b := by
  unfold claimV at h
  obtain ⟨h1, h2⟩ := List.append_inj h (by rw [keyV_length ha.1, keyV_length hb.1])
  obtain ⟨h3, h4⟩ := List.append_inj h2 (by rw [keyV_length ha.2.1, keyV_length hb.2.1])
  simp only [List.cons_append, List.nil_append, List.cons.injEq, Value.int.injEq, Value.string.injEq, true_and, and_true] at h4
  exact Prod.ext (keyV_inj h1) (Prod.ext (keyV_inj h3) (Prod.ext (by omega) h4.2))
theorem claim_cell {c : ClaimD} (h : ClaimOk c) : (claimV c)[68]? = some (.int .u8 (c.2.2.1 : Int)) ∧ (claimV c)[69]? = some (.string c.2.2.2) := by
  have h1 := keyV_length h.1
  have h2 := keyV_length h.2.1
  constructor
  · unfold claimV
    rw [List.getElem?_append_right (by omega), List.getElem?_append_right (by omega), h1, h2]; rfl
  · unfold claimV
    rw [List.getElem?_append_right (by omega), List.getElem?_append_right (by omega), h1, h2]; rfl
theorem claim_key {c : ClaimD} (h : ClaimOk c) : ∀ j u, (keyV c.1)[j]? = some u → (claimV c)[0 + j]? = some u := by
  intro j u hj
  unfold claimV
  rw [Nat.zero_add, List.getElem?_append_left (List.getElem?_eq_some_iff.1 hj).1]
  exact hj
theorem claim_doc {c : ClaimD} (h : ClaimOk c) : ∀ j u, (keyV c.2.1)[j]? = some u → (claimV c)[34 + j]? = some u := by
  intro j u hj
  have h1 := keyV_length h.1
  unfold claimV
  rw [List.getElem?_append_right (by omega), h1, show 34 + j - 34 = j by omega, List.getElem?_append_left (List.getElem?_eq_some_iff.1 hj).1]
  exact hj

/-- A document and its path. -/
abbrev NamedD := KeyD × ByteArray
def namedV (n : NamedD) : List Value := keyV n.1 ++ [.string n.2]
def NamedOk (n : NamedD) : Prop := KeyOk n.1 ∧ n.2.size ≤ maxLen
theorem namedV_length {n : NamedD} (h : NamedOk n) : (namedV n).length = 35 := by
  simp [namedV, keyV_length h.1]
theorem namedV_one (n : NamedD) : ∀ u ∈ namedV n, u.oneCell' = true := by
  intro u hu
  simp only [namedV, List.mem_append, List.mem_singleton] at hu
  rcases hu with hu | rfl
  · exact keyV_one _ u hu
  · rfl
theorem namedV_inj {a b : NamedD} (ha : NamedOk a) (hb : NamedOk b) (h : namedV a = namedV b) : a = b := by
  unfold namedV at h
  obtain ⟨h1, h2⟩ := List.append_inj h (by rw [keyV_length ha.1, keyV_length hb.1])
  simp only [List.cons.injEq, Value.string.injEq, and_true] at h2
  exact Prod.ext (keyV_inj h1) h2
theorem named_cell {n : NamedD} (h : NamedOk n) : (namedV n)[34]? = some (.string n.2) := by
  have h1 := keyV_length h.1
  unfold namedV
  rw [List.getElem?_append_right (by omega), h1]; rfl
theorem named_doc {n : NamedD} (h : NamedOk n) : ∀ j u, (keyV n.1)[j]? = some u → (namedV n)[0 + j]? = some u := by
  intro j u hj
  unfold namedV
  rw [Nat.zero_add, List.getElem?_append_left (List.getElem?_eq_some_iff.1 hj).1]
  exact hj

section
variable {H : Type} {enc : TypeId × Value → H} {w : World} {base : Nat} {spare : Nat → Bool} {held : Bool} {fuel : Nat} {cs : List Value} {x : DataW H × List MemPlace}
theorem trodId (h : DataW.trod enc Tryz.prog w base spare held fuel 24 cs = some x) : ∃ l : List UInt8, IdOk l ∧ cs = idV l :=
  trod_id Tryz.underlying24 Tryz.underlying5 cellsU8 cellsId h
theorem trodKey (h : DataW.trod enc Tryz.prog w base spare held fuel 26 cs = some x) : ∃ k : KeyD, KeyOk k ∧ cs = keyV k :=
  trod_key Tryz.underlying26 ⟨rfl, rfl⟩ ⟨rfl, rfl⟩ ⟨rfl, rfl⟩ Tryz.underlying3 Tryz.underlying24 Tryz.underlying5 cellsInt cellsId cellsU8 cellsKey h
theorem trod_claim {t : TypeId} {f0 f1 f2 f3 : Field} (ht : Tryz.prog.underlying t = some (.struct #[f0, f1, f2, f3])) (h0 : f0.type = 26 ∧ f0.offset = 0) (h1 : f1.type = 26 ∧ f1.offset = 34) (h2 : f2.type = 5 ∧ f2.offset = 68) (h3 : f3.type = 9 ∧ f3.offset = 69)
    (ct : Tryz.prog.cellsOf t = 70) (h : DataW.trod enc Tryz.prog w base spare held fuel t cs = some x) : ∃ c : ClaimD, ClaimOk c ∧ cs = claimV c := by
  obtain ⟨xs, n, _, _, hlen, hxl, hf⟩ := DataW.trod_struct ht h
  rw [ct] at hlen
  have hxl' : xs.length = 4 := hxl
  have g0 := hf 0 f0 rfl
  have g1 := hf 1 f1 rfl
  have g2 := hf 2 f2 rfl
  have g3 := hf 3 f3 rfl
  rw [h0.1, h0.2, cellsKey, List.getElem?_eq_getElem (by omega)] at g0
  rw [h1.1, h1.2, cellsKey, List.getElem?_eq_getElem (by omega)] at g1
  rw [h2.1, h2.2, cellsU8, List.getElem?_eq_getElem (by omega)] at g2
  rw [h3.1, h3.2, cellsStr, List.getElem?_eq_getElem (by omega)] at g3
  obtain ⟨k, hk, e0⟩ := trodKey g0
  obtain ⟨d, hd, e1⟩ := trodKey g1
  obtain ⟨n2, e2, _, w2⟩ := DataW.trod_int Tryz.underlying5 g2
  obtain ⟨s, e3, _, hs⟩ := DataW.trod_string Tryz.underlying9 g3
  have hr := bounds_u8 w2
  refine ⟨(k, d, n2.toNat, s), ⟨hk, hd, by simp; omega, hs⟩, ?_⟩
  have hsplit : cs = (cs.drop 0).take 34 ++ ((cs.drop 34).take 34 ++ ((cs.drop 68).take 1 ++ (cs.drop 69).take 1)) := by
    have a1 : (cs.drop 69).take 1 = cs.drop 69 := List.take_of_length_le (by simp; omega)
    rw [a1, show cs.drop 69 = (cs.drop 68).drop 1 by rw [List.drop_drop], List.take_append_drop, show cs.drop 68 = (cs.drop 34).drop 34 by rw [List.drop_drop], List.take_append_drop, List.drop_zero, List.take_append_drop]
  rw [hsplit, e0, e1, e2, e3]
  unfold claimV
  rw [show ((n2.toNat : Nat) : Int) = n2 by omega]
end
theorem kbClaim {t : TypeId} {f0 f1 f2 f3 : Field} (ht : Tryz.prog.underlying t = some (.struct #[f0, f1, f2, f3])) (h0 : f0.type = 26 ∧ f0.offset = 0) (h1 : f1.type = 26 ∧ f1.offset = 34) (h2 : f2.type = 5 ∧ f2.offset = 68) (h3 : f3.type = 9 ∧ f3.offset = 69)
    (ct : Tryz.prog.cellsOf t = 70) (hn : (#[f0, f1, f2, f3] : Array Field).all (·.name != "_") = true) {c : ClaimD} (hc : ClaimOk c) : Kb Tryz.prog 4 t (claimV c) := by
  have l0 := keyV_length hc.1
  have l1 := keyV_length hc.2.1
  refine kb_struct ht (by rw [claimV_length hc, ct]) hn fun f hf => ?_
  simp only [List.mem_cons, List.not_mem_nil, or_false] at hf
  rcases hf with rfl | rfl | rfl | rfl
  · rw [h0.1, h0.2, cellsKey, List.drop_zero, show (claimV c).take 34 = keyV c.1 by unfold claimV; rw [← l0, List.take_left']; rfl]
    exact kbKey hc.1
  · rw [h1.1, h1.2, cellsKey, show ((claimV c).drop 34).take 34 = keyV c.2.1 from cut_mid l0 l1]
    exact kbKey hc.2.1
  · rw [h2.1, h2.2, cellsU8, show ((claimV c).drop 68).take 1 = [.int .u8 (c.2.2.1 : Int)] by
      unfold claimV
      rw [← List.append_assoc]
      exact cut_mid (by simp [l0, l1]) rfl]
    refine fun d hd => kb_int Tryz.underlying5 ?_ d (by omega)
    have := hc.2.2.1
    simp only [Lit.wf, IntKind.min, IntKind.max, IntKind.signed, IntKind.bits, Bool.and_eq_true, decide_eq_true_eq]
    simp
    omega
  · rw [h3.1, h3.2, cellsStr, show ((claimV c).drop 69).take 1 = [.string c.2.2.2] by
      unfold claimV
      rw [← List.append_assoc, ← List.append_assoc]
      exact cut_end (by simp [l0, l1]) rfl]
    exact fun d hd => kb_str Tryz.underlying9 hc.2.2.2 d (by omega)
end Go.Proofs.YtfjmbcljohobeaaGreatDoor
namespace Go.Proofs.YtfjmbcljohobeaaGreatDoor
open Go.RowKit
set_option linter.unusedVariables false

theorem isEmpty_size (p : ByteArray) : p.toList.isEmpty = decide (p.size = 0) := by
  rw [toList_L, Bool.eq_iff_iff, decide_eq_true_eq, ← L_length, List.isEmpty_iff, List.length_eq_zero_iff]
set_option maxHeartbeats 1000000 in
set_option maxRecDepth 100000 in
theorem good_aux (cs : List Value) (k : Nat) (p : ByteArray) (w : World) (k0 : cs[68]? = some (.int .u8 (k : Int))) (k1 : cs[69]? = some (.string p)) (hsz : p.size ≤ maxLen) (hg : Glob w) :
    Calls Tryz.prog 18 #[.agg cs.toArray] w fun e w' => Below w.heap.size w w' ∧ e = .returned (.bool (goodB k p)) := by
  have h1 : (w.alloc (.cells cs.toArray 29)).heap[w.heap.size]? = some (.cells cs.toArray 29 (0, 0)) := heap_alloc_new _ _
  have c0 := (cells_box h1 68).trans k0
  have c1 := (cells_box h1 69).trans k1
  have hb : Below w.heap.size w (w.alloc (.cells cs.toArray 29)) := (Below.refl _ _).alloc (Nat.le_refl _) _
  have HG := Lib.hid (hg.next hb)
  have HB := Lib.hid hb
  have HZ := Lib.hid hsz
  clear hsz hb k0 k1 h1
  have hout : ∀ j : Nat, ¬ j = 3 → ¬ j = 4 → ¬ j = 5 → goodB j p = false := by
    intro j h3 h4 h5
    unfold goodB
    rw [if_neg (by omega), if_neg h5]
  have d3 : k < 3 ∨ 5 < k → ((k : Int) == 3) = false := by intro h; rw [beq_eq_false_iff_ne]; omega
  have d4 : k < 3 ∨ 5 < k → ((k : Int) == 4) = false := by intro h; rw [beq_eq_false_iff_ne]; omega
  have d5 : k < 3 ∨ 5 < k → ((k : Int) == 5) = false := by intro h; rw [beq_eq_false_iff_ne]; omega
  rcases (by omega : (k < 3 ∨ 5 < k) ∨ k = 3 ∨ k = 4 ∨ k = 5) with h | rfl | rfl | rfl
  · rw [hout k (by omega) (by omega) (by omega)]
    have d3 := d3 h; have d4 := d4 h; have d5 := d5 h
    clear hout h
    go_enter Tryz.func18, Tryz.ntmps18
    go_upto_region 1 with fail
    generalize w.alloc (.cells cs.toArray 29) = W at *
    go_wp2_with fail
    go_ret
    exact ⟨HB.out, rfl⟩
  · rw [show goodB 3 p = pathB p by simp [goodB]]
    clear hout d3 d4 d5
    go_enter Tryz.func18, Tryz.ntmps18
    go_upto_region 1 with fail
    generalize w.alloc (.cells cs.toArray 29) = W at *
    go_wp2_with (go_at_call 29; refine (path_any p _ HZ.out HG.out).mono ?_; rintro e w3 ⟨hb3, rfl⟩)
    go_ret
    exact ⟨HB.out.trans (hb3.mono HB.out.size), rfl⟩
  · rw [show goodB 4 p = pathB p by simp [goodB]]
    clear hout d3 d4 d5
    go_enter Tryz.func18, Tryz.ntmps18
    go_upto_region 1 with fail
    generalize w.alloc (.cells cs.toArray 29) = W at *
    go_wp2_with (go_at_call 29; refine (path_any p _ HZ.out HG.out).mono ?_; rintro e w3 ⟨hb3, rfl⟩)
    go_ret
    exact ⟨HB.out.trans (hb3.mono HB.out.size), rfl⟩
  · rw [show goodB 5 p = p.toList.isEmpty by simp [goodB, isEmpty_size]]
    clear hout d3 d4 d5
    go_enter Tryz.func18, Tryz.ntmps18
    go_upto_region 1 with fail
    generalize w.alloc (.cells cs.toArray 29) = W at *
    go_wp2_with fail
    go_ret
    exact ⟨HB.out, rfl⟩
theorem good_any (c : ClaimD) (w : World) (hc : ClaimOk c) (hg : Glob w) :
    Calls Tryz.prog 18 #[.agg (claimV c).toArray] w fun e w' => Below w.heap.size w w' ∧ e = .returned (.bool (goodB c.2.2.1 c.2.2.2)) :=
  good_aux _ _ _ w (claim_cell hc).1 (claim_cell hc).2 hc.2.2.2 hg
end Go.Proofs.YtfjmbcljohobeaaGreatDoor
namespace Go.Proofs.YtfjmbcljohobeaaGreatDoor

def bytesE (s : ByteArray) : Int := if 4096 < s.size then 2 else if isText s then 0 else 5
def treeGo : List (List UInt8) → List (ByteArray × ByteArray) → Int
  | _, [] => 0
  | ahead, f :: r => if pathB f.1 = false then 10 else if bytesE f.2 ≠ 0 then bytesE f.2 else if clashesB (L f.1) ahead then 11 else treeGo (ahead ++ [L f.1]) r
def treeE (fs : List (ByteArray × ByteArray)) : Int := if 64 < fs.length then 3 else treeGo [] fs

theorem clash_symm (a b : List UInt8) : clashB a b = clashB b a := by
  unfold clashB
  rw [show decide (a = b) = decide (b = a) by rw [Bool.eq_iff_iff]; simp [eq_comm]]
  rw [Bool.or_assoc, Bool.or_assoc, Bool.or_comm (underB a b)]

def okFile (f : ByteArray × ByteArray) : Prop := pathB f.1 = true ∧ bytesE f.2 = 0
def apartF (f g : ByteArray × ByteArray) : Prop := clashB (L f.1) (L g.1) = false
theorem treeGo_iff : ∀ (fs : List (ByteArray × ByteArray)) (ahead : List (List UInt8)), treeGo ahead fs = 0 ↔ (∀ f ∈ fs, okFile f) ∧ (∀ f ∈ fs, clashesB (L f.1) ahead = false) ∧ fs.Pairwise apartF := by
  intro fs
  induction fs with
  | nil => intro ahead; simp [treeGo]
  | cons f fs ih =>
    intro ahead
    rw [treeGo]
    cases hp : pathB f.1
    · rw [if_pos rfl]
      refine ⟨fun h => by omega, fun h => ?_⟩
      have := (h.1 f (by simp)).1
      rw [hp] at this; cases this
    · rw [if_neg (by simp)]
      by_cases hb : bytesE f.2 = 0
      · rw [if_neg (by simp [hb])]
        cases hc : clashesB (L f.1) ahead
        · rw [if_neg (by simp), ih]
          have hca : ∀ g : ByteArray × ByteArray, clashesB (L g.1) (ahead ++ [L f.1]) = (clashesB (L g.1) ahead || clashB (L g.1) (L f.1)) := by
            intro g; simp [clashesB]
          simp only [List.mem_cons, List.pairwise_cons, hca, Bool.or_eq_false_iff]
          constructor
          · rintro ⟨h1, h2, h3⟩
            refine ⟨?_, ?_, ⟨fun g hg => ?_, h3⟩⟩
            · rintro g (rfl | hg)
              · exact ⟨hp, hb⟩
              · exact h1 g hg
            · rintro g (rfl | hg)
              · exact hc
              · exact (h2 g hg).1
            · unfold apartF
              rw [clash_symm]
              exact (h2 g hg).2
          · rintro ⟨h1, h2, h3, h4⟩
            refine ⟨fun g hg => h1 g (.inr hg), fun g hg => ⟨h2 g (.inr hg), ?_⟩, h4⟩
            rw [clash_symm]
            exact h3 g hg
        · rw [if_pos rfl]
          refine ⟨fun h => by omega, fun h => ?_⟩
          have := h.2.1 f (by simp)
          rw [hc] at this; cases this
      · rw [if_pos hb]
        refine ⟨fun h => absurd h hb, fun h => ?_⟩
        exact absurd (h.1 f (by simp)).2 hb
theorem treeE_iff (fs : List (ByteArray × ByteArray)) : treeE fs = 0 ↔ fs.length ≤ 64 ∧ (∀ f ∈ fs, okFile f) ∧ fs.Pairwise apartF := by
  unfold treeE
  split
  · refine ⟨fun h => by omega, fun h => by omega⟩
  · rw [treeGo_iff]
    have : ∀ f : ByteArray × ByteArray, clashesB (L f.1) [] = false := fun f => rfl
    simp only [this, implies_true, true_and]
    constructor
    · rintro ⟨h1, h2⟩; exact ⟨by omega, h1, h2⟩
    · rintro ⟨_, h1, h2⟩; exact ⟨h1, h2⟩
theorem tree_sub {fs gs : List (ByteArray × ByteArray)} (h : treeE fs = 0) (hs : gs.Sublist fs) : treeE gs = 0 := by
  rw [treeE_iff] at h ⊢
  exact ⟨Nat.le_trans hs.length_le h.1, fun f hf => h.2.1 f (hs.subset hf), h.2.2.sublist hs⟩
theorem tree_perm {fs gs : List (ByteArray × ByteArray)} (h : treeE fs = 0) (hp : gs.Perm fs) : treeE gs = 0 := by
  rw [treeE_iff] at h ⊢
  refine ⟨by rw [hp.length_eq]; exact h.1, fun f hf => h.2.1 f (hp.mem_iff.1 hf), ?_⟩
  exact (hp.pairwise_iff (R := apartF) (fun {x y} hxy => by unfold apartF at hxy ⊢; rw [clash_symm]; exact hxy)).2 h.2.2
theorem tree_swap {fs : List (ByteArray × ByteArray)} (h : treeE fs = 0) {a b : Nat} (ha : a < fs.length) (hb : b < fs.length) : treeE ((fs.set a fs[b]).set b fs[a]) = 0 :=
  tree_perm h (List.set_set_perm ha hb)
theorem tree_less {fs : List (ByteArray × ByteArray)} (h : treeE fs = 0) (a : Nat) : treeE (fs.eraseIdx a) = 0 := tree_sub h (List.eraseIdx_sublist _ _)
end Go.Proofs.YtfjmbcljohobeaaGreatDoor
namespace Go.Proofs.YtfjmbcljohobeaaGreatDoor
open Go.RowKit
set_option linter.unusedVariables false

theorem info_i32 : (Tryz.prog.info? 21).map (fun i => (i.zero, i.size, i.bytes)) = some (some (.int .i32 0), 1, 4) := by kernel_rfl

def i32s (l : List Nat) : List Value := l.map fun (r : Nat) => Value.int .i32 (r : Int)

/-- What Runes gives: the runes, or none and ErrText. -/
def RunesGives (s : ByteArray) (w : World) (e : Ending) (w' : World) : Prop :=
  Below w.heap.size w w' ∧ ((∃ l A c, runesOf s = some l ∧ e = .returned (.tuple #[.slice A l.length c, .int .i64 0, .int .i64 0]) ∧ Sl w' w'.heap.size A l.length 1 (i32s l)) ∨
    runesOf s = none ∧ ∃ n : Int, e = .returned (.tuple #[.slice none 0 0, .int .i64 n, .int .i64 5]))

theorem own_form {w : World} {base : Nat} {e : TypeId} {sz : Nat} {v : Value} {n : Nat} {xs : List Value} (h : w.ownsRow base e sz v n xs) : ∃ A c, v = .slice A n c := by
  rcases h.2 with ⟨hv, h0⟩ | ⟨g, cap, cur, hv, _⟩
  · exact ⟨none, 0, by rw [hv, h0]⟩
  · exact ⟨_, _, hv⟩

set_option maxHeartbeats 1000000 in
set_option maxRecDepth 100000 in
theorem runes_any (s : ByteArray) (w : World) (hs : s.size ≤ 1099511627776) : Calls Tryz.prog 39 #[.string s] w (RunesGives s w) := by
  have hs' : s.size ≤ maxLen := by unfold maxLen; omega
  go_enter Tryz.func39, Tryz.ntmps39
  go_wp2
  go_loopw [5, 6] (fun v n wr => ∃ (k : Nat) (l : List Nat), k ≤ s.size ∧ l.length ≤ k ∧ n = .int .i64 k ∧ wr.ownsRow w.heap.size 21 1 v l.length (i32s l) ∧ Below w.heap.size w wr ∧ Hid (runesOf s = (runesAt s k).map (l ++ ·))) (fun _ n _ => s.size - (intOf n).toNat)
  case atStart => exact ⟨0, [], by omega, by simp, rfl, World.ownsRow_nil _ _ _ _, Below.refl _ _, Lib.hid (by rw [runesOf_eq]; simp)⟩
  case round =>
    obtain ⟨k, l, hk, hl, rfl, hown, hbw, hR⟩ := hrel
    by_cases hlt : k < s.size
    · have hin := dec_in hlt
      go_wp2_with fail
      refine (one_any s k _ hlt hs').mono ?_
      rintro e w1 ⟨hb1, ⟨ho, rfl⟩ | ⟨ho, rfl⟩⟩
      · have HO := Lib.hid ho; clear ho
        have hr := decode_le s k
        have hbw1 : Below w.heap.size w w1 := hbw.trans (hb1.mono hbw.size)
        have hown1 : w1.ownsRow w.heap.size 21 1 u5 l.length (i32s l) := by
          refine hown.kept (row := none) ⟨hb1.os, hb1.tape, hb1.output, hb1.size, fun j hj _ => hb1.block j hj⟩ ?_
          rcases h : u5.ownBlock with _ | g
          · exact .inl rfl
          · exact .inr (by simp)
        have hne : (((Utf8.decode s k).2 : Int) == 0) = false := by simp; omega
        go_wp2_with (at_builtin; refine wp_app1 rfl _ _ 75 rfl w.heap.size 21 (.int .i32 0) 4 Tryz.underlying75 info_i32 rfl _ _ _ rfl hown1 _ _ rfl rfl ?c1 ?c2 ?c3 ?_)
        case c1 => unfold maxLen; omega
        case c2 => omega
        case c3 => exact hbw1.size
        intro v' w2 hown2 hbel
        have hb2 := hbel _ _ (Nat.le_refl _) hbw1
        clear hbel
        go_wp2_with fail
        go_roundw
        case rel =>
          refine ⟨k + (Utf8.decode s k).2, l ++ [(Utf8.decode s k).1], by omega, by simp; omega, by go_num, ?_, hb2, Lib.hid ?_⟩
          · simpa [i32s] using hown2
          · rw [hR.out, runesAt_ok hlt HO.out]
            cases runesAt s (k + (Utf8.decode s k).2) <;> simp
        case measure => simp [intOf]; omega
      · have HO := Lib.hid ho; clear ho
        go_wp2_with fail
        go_ret3
        refine ⟨hbw.trans (hb1.mono hbw.size), .inr ⟨by rw [hR.out, runesAt_bad hlt HO.out]; rfl, _, rfl⟩⟩
    · go_wp2_with fail
      go_ret3
      obtain ⟨A, c, hv⟩ := own_form hown
      refine ⟨hbw, .inl ⟨l, A, c, by rw [hR.out, runesAt_end (by omega)]; simp, ?_, ?_⟩⟩
      · rw [← hv]; rfl
      · rw [hv] at hown
        exact Sl.of_own hown

/-- Why a file's bytes may not be: an error's number. -/
def bytesS (s : ByteArray) : Int := if 4096 < s.size then 2 else if isText s then 0 else 5

end Go.Proofs.YtfjmbcljohobeaaGreatDoor
namespace Go.Proofs.YtfjmbcljohobeaaGreatDoor
open Go.RowKit
set_option linter.unusedVariables false

theorem bytesE_eq (s : ByteArray) : bytesS s = bytesE s := rfl
theorem bytesE_cases (s : ByteArray) : bytesE s = 0 ∨ bytesE s = 2 ∨ bytesE s = 5 := by
  unfold bytesE
  split
  · exact .inr (.inl rfl)
  · split
    · exact .inl rfl
    · exact .inr (.inr rfl)
theorem bcell {W w1 : World} (hb : Below W.heap.size W w1) : (∀ b o, b < W.heap.size → w1.cell? ⟨b, o, none⟩ = W.cell? ⟨b, o, none⟩) ∧ (∀ b o, b < W.heap.size → w1.frozen? ⟨b, o, none⟩ = W.frozen? ⟨b, o, none⟩) :=
  ⟨fun b o h => hb.cell (p := ⟨b, o, none⟩) h, fun b o h => hb.frozen (p := ⟨b, o, none⟩) h⟩

/-- Read up to i: what is left decides. -/
def Treeing (fs : List (ByteArray × ByteArray)) (i : Nat) : Prop := treeE fs = treeGo ((fs.take i).map fun f => L f.1) (fs.drop i)
theorem treeing_start {fs : List (ByteArray × ByteArray)} (h : ¬ 64 < fs.length) : Treeing fs 0 := by
  unfold Treeing treeE; rw [if_neg h]; rfl
theorem treeing_step {fs : List (ByteArray × ByteArray)} {i : Nat} (h : Treeing fs i) (hi : i < fs.length) :
    treeE fs = if pathB fs[i].1 = false then 10 else if bytesE fs[i].2 ≠ 0 then bytesE fs[i].2 else if clashesB (L fs[i].1) ((fs.take i).map fun f => L f.1) then 11 else treeGo ((fs.take (i + 1)).map fun f => L f.1) (fs.drop (i + 1)) := by
  rw [h, List.drop_eq_getElem_cons hi, treeGo, List.take_succ_eq_append_getElem hi, List.map_append]
  rfl
theorem treeing_end {fs : List (ByteArray × ByteArray)} {i : Nat} (h : Treeing fs i) (hi : fs.length ≤ i) : treeE fs = 0 := by
  rw [h, List.drop_eq_nil_of_le hi]; rfl
theorem clashes_take_no {fs : List (ByteArray × ByteArray)} {i : Nat} {l : List UInt8} (hi : i ≤ fs.length) (h : ∀ j (hj : j < fs.length), j < i → clashB l (L fs[j].1) = false) : clashesB l ((fs.take i).map fun f => L f.1) = false := by
  unfold clashesB
  rw [List.any_eq_false]
  intro x hx
  obtain ⟨f, hf, rfl⟩ := List.mem_map.1 hx
  obtain ⟨j, hj, rfl⟩ := List.getElem_of_mem hf
  rw [List.length_take] at hj
  rw [List.getElem_take]
  simp [h j (by omega) (by omega)]
theorem clashes_take_yes {fs : List (ByteArray × ByteArray)} {i j : Nat} {l : List UInt8} (hi : i ≤ fs.length) (hj : j < i) (h : clashB l (L (fs[j]'(by omega)).1) = true) : clashesB l ((fs.take i).map fun f => L f.1) = true := by
  unfold clashesB
  rw [List.any_eq_true]
  refine ⟨L (fs[j]'(by omega)).1, List.mem_map.2 ⟨fs[j]'(by omega), ?_, rfl⟩, h⟩
  rw [List.mem_take_iff_getElem]
  exact ⟨j, by omega, rfl⟩

end Go.Proofs.YtfjmbcljohobeaaGreatDoor
namespace Go.Proofs.YtfjmbcljohobeaaGreatDoor
open Go.RowKit
set_option linter.unusedVariables false

def claimA (c : ClaimD) : Value := .agg (claimV c).toArray
def lastM (l : List ClaimD) (d : KeyD) : Option Value := (lastOf l d).map claimA
theorem lastM_put {t : List ClaimD} {c : ClaimD} (h : ∀ x, lastOf t c.2.1 = some x → 0 < cmpK c.1 x.1) : (fun k => if k = c.2.1 then some (claimA c) else lastM t k) = lastM (t ++ [c]) := by
  funext k
  unfold lastM
  rw [lastOf_snoc]
  unfold later
  by_cases e : k = c.2.1
  · subst e
    rw [if_pos rfl, if_pos rfl]
    cases h0 : lastOf t c.2.1 with
    | none => rfl
    | some x => simp only [if_pos (h x h0)]; rfl
  · rw [if_neg e, if_neg (fun q => e q.symm)]
theorem lastM_keep {t : List ClaimD} {c x : ClaimD} (h0 : lastOf t c.2.1 = some x) (h : ¬ 0 < cmpK c.1 x.1) : lastM t = lastM (t ++ [c]) := by
  funext k
  unfold lastM
  rw [lastOf_snoc]
  unfold later
  by_cases e : c.2.1 = k
  · subst e
    rw [if_pos rfl, h0]
    simp only [if_neg h]
  · rw [if_neg e]
theorem sizeClaim : (Tryz.prog.info? 29).map (·.size) = some 70 := by kernel_rfl
theorem sizeKey : (Tryz.prog.info? 26).map (·.size) = some 34 := by kernel_rfl

def zeroC : ClaimD := ((0, zero32, 0), (0, zero32, 0), 0, ByteArray.empty)
theorem zeroC_ok : ClaimOk zeroC := ⟨⟨by decide, zero32_ok, by decide⟩, ⟨by decide, zero32_ok, by decide⟩, by decide, by decide⟩
set_option maxRecDepth 100000 in
theorem zeroC_info : (Tryz.prog.info? 29).map (·.zero) = some (some (claimA zeroC)) := by kernel_rfl
theorem zeroC_run (w : World) : (zeroValue 29).run Tryz.prog w = .ok (claimA zeroC) w := by
  have h := zeroC_info
  cases hq : Tryz.prog.info? 29 with
  | none => rw [hq] at h; cases h
  | some i =>
    rw [hq] at h
    have h2 : i.zero = some (claimA zeroC) := Option.some.inj h
    simp [zeroValue, typeInfo, hq, h2]
set_option maxHeartbeats 2000000 in
set_option maxRecDepth 100000 in
theorem lasts_any (l : List ClaimD) (A : Option Addr) (c : Nat) (w : World) (hl : l.length ≤ 1099511627776) (hok : ∀ x ∈ l, ClaimOk x) (hsl : Sl w w.heap.size A l.length 70 (rowsV claimV l)) :
    Calls Tryz.prog 13 #[.slice A l.length c] w fun e w' => Below w.heap.size w w' ∧ e = .returned (.map (some w.heap.size)) ∧ ∃ n, n ≤ l.length ∧ MapV w' Tryz.prog 26 KeyOk keyL w.heap.size n (lastM l) := by
  have HSL := Lib.hid hsl; clear hsl
  have HOK := Lib.hid hok; clear hok
  have hmm := @run_makeMap Tryz.prog
  go_enter Tryz.func13, Tryz.ntmps13
  go_upto_region 2 with fail
  have hm0 := MapV.made w Tryz.prog 26 KeyOk keyL
  have hb0 : Below w.heap.size w (w.alloc (.map #[] 0)) := (Below.refl _ _).alloc (Nat.le_refl _) _
  clear hmm
  generalize w.alloc (.map #[] 0) = W at *
  go_wp2_with fail
  go_loopw [11] (fun t wr => ∃ i : Nat, i ≤ l.length ∧ t = .int .i64 i ∧ Below w.heap.size w wr ∧ ∃ n0, n0 ≤ i ∧ Hid (MapV wr Tryz.prog 26 KeyOk keyL w.heap.size n0 (lastM (l.take i)))) (fun t _ => l.length - (intOf t).toNat)
  case atStart => exact ⟨0, by omega, rfl, hb0, 0, Nat.le_refl _, Lib.hid hm0⟩
  case round =>
    obtain ⟨i, hi, rfl, hbr, n0, hn0, hM⟩ := hrel
    by_cases hlt : i < l.length
    · obtain ⟨b, off, rfl, hbl, hcl⟩ := (HSL.out.keep hbr).2 (by omega)
      have i0 : (0 : Int) ≤ (i : Int) := by omega
      have i1 : (i : Int) < (l.length : Int) := by omega
      have hlens : ∀ x ∈ l, (claimV x).length = 70 := fun x hx => claimV_length (HOK.out x hx)
      have hrow := Sl.row hlens hcl hlt
      have hcx := HOK.out _ (List.getElem_mem hlt)
      have htk : l.take (i + 1) = l.take i ++ [l[i]] := List.take_succ_eq_append_getElem hlt
      have HCL := Lib.hid hcl; clear hcl
      have HROW := Lib.hid hrow; clear hrow
      have HTK := Lib.hid htk; clear htk
      have HX := Lib.hid hcx; clear hcx
      clear hlens
      generalize l[i] = x at *
      go_upto_region 5 with (first
        | (refine wp_loadN rfl 29 _ rfl b _ rfl (claimV x) _ HROW.out Tryz.underlying29 rfl (by rw [claimV_length HX.out]; exact sizeClaim) ?_)
        | (refine wp_storeN (B := wr.heap.size) (w0 := wr) rfl 29 _ _ rfl wr.heap.size _ rfl rfl 29 _ (heap_alloc_new _ _) (by rw [List.size_toArray, claimV_length HX.out]; exact sizeClaim) (by rw [show (claimV x).toArray.size = 70 by rw [List.size_toArray, claimV_length HX.out]]; rfl) (by simpa using claimV_one x) ((Below.refl _ _).alloc (Nat.le_refl _) _) (Nat.le_refl _) ?_; intro W2 hbW2 hW2 _))
      have hM2 := Lib.hid (hM.out.below hbW2)
      have hdoc : ∀ j u, (keyV x.2.1)[j]? = some u → W2.cell? ⟨wr.heap.size, 34 + j, none⟩ = some u := fun j u hj => (cells_box hW2 (34 + j)).trans (claim_doc HX.out j u hj)
      have HDOC := Lib.hid hdoc; clear hdoc
      have HB2 := Lib.hid hbW2; have HW2 := Lib.hid hW2
      clear hbW2 hW2 hM
      have hz2 : wr.heap.size < W2.heap.size := (Array.getElem?_eq_some_iff.1 HW2.out).1
      have hall : ∀ j u, (claimV x)[j]? = some u → W2.cell? ⟨wr.heap.size, 0 + j, none⟩ = some u := fun j u hj => by rw [Nat.zero_add]; exact (cells_box HW2.out j).trans hj
      have HALL := Lib.hid hall; clear hall
      have HZ2 := Lib.hid hz2; clear hz2
      have hmax : n0 < maxLen := by unfold maxLen; omega
      have hkd : KeyOk x.2.1 := HX.out.2.1
      have hkk : KeyOk x.1 := HX.out.1
      cases hlast : lastOf (l.take i) x.2.1 with
      | none =>
        have hLM : lastM (l.take i) x.2.1 = none := by unfold lastM; rw [hlast]; rfl
        have hput := lastM_put (t := l.take i) (c := x) (fun y hy => by rw [hlast] at hy; cases hy)
        have HLM := Lib.hid hLM; have HPUT := Lib.hid hput
        clear hLM hput hlast
        go_upto_region 6 with (first
          | (refine wp_loadN rfl 26 _ rfl wr.heap.size 34 rfl (keyV x.2.1) _ HDOC.out Tryz.underlying26 rfl (by rw [keyV_length hkd]; exact sizeKey) ?_)
          | (refine wp_mapGet2 rfl _ _ 43 rfl 29 keyEnc Tryz.underlying43 (claimA zeroC) (zeroC_run _) rfl hM2.out x.2.1 hkd rfl ?_; rw [HLM.out]; simp only [Option.getD_none, Option.isSome_none])
          | (refine wp_storeN (B := W2.heap.size) (w0 := W2) rfl 29 _ _ rfl W2.heap.size _ rfl rfl 29 _ (heap_alloc_new _ _) (by kernel_rfl) (by kernel_rfl) (by simpa using claimV_one zeroC) ((Below.refl _ _).alloc (Nat.le_refl _) _) (Nat.le_refl _) ?_; intro W3 hbW3 hW3 _))
        obtain ⟨cl3, _⟩ := bcell hbW3
        have hM3 := Lib.hid (hM2.out.below hbW3)
        have D3 : Hid (∀ j u, (keyV x.2.1)[j]? = some u → W3.cell? ⟨wr.heap.size, 34 + j, none⟩ = some u) := fun j u hj => (cl3 _ _ HZ2.out).trans (HDOC.out j u hj)
        have A3 : Hid (∀ j u, (claimV x)[j]? = some u → W3.cell? ⟨wr.heap.size, 0 + j, none⟩ = some u) := fun j u hj => (cl3 _ _ HZ2.out).trans (HALL.out j u hj)
        have hb3 : Below w.heap.size w W3 := (hbr.trans (HB2.out.mono hbr.size)).trans (hbW3.mono (Nat.le_trans hbr.size HB2.out.size))
        have HB3 := Lib.hid hb3
        clear hb3 cl3 hW3 hbW3 hbr
        go_wp2_with (first
          | (refine wp_loadN rfl 26 _ rfl wr.heap.size 34 rfl (keyV x.2.1) _ D3.out Tryz.underlying26 rfl (by rw [keyV_length hkd]; exact sizeKey) ?_)
          | (refine wp_loadN rfl 29 _ rfl wr.heap.size 0 rfl (claimV x) _ A3.out Tryz.underlying29 rfl (by rw [claimV_length HX.out]; exact sizeClaim) ?_)
          | (refine wp_mapPut rfl _ _ _ 43 rfl 29 keyEnc Tryz.underlying43 rfl hM3.out hmax x.2.1 hkd rfl (claimA x) rfl ?_; intro W4 hM4 hg4))
        go_roundw
        case rel => exact ⟨i + 1, by omega, by go_num, HB3.out.grown hg4 HB3.out.size (fun k e => by cases e; exact Nat.le_refl _), n0 + 1, by omega, Lib.hid (by rw [HTK.out, ← HPUT.out]; exact hM4)⟩
        case measure => simp [intOf]; omega
      | some y =>
        have hy : ClaimOk y := HOK.out y (List.mem_of_mem_take (lastOf_is hlast).1)
        have hLM : lastM (l.take i) x.2.1 = some (claimA y) := by unfold lastM; rw [hlast]; rfl
        have HLM := Lib.hid hLM; have HY := Lib.hid hy
        clear hLM hy
        have hky : KeyOk y.1 := HY.out.1
        have hkeys := fun q => keys_any x.1 y.1 q hkk hky
        by_cases hq : 0 < cmpK x.1 y.1
        · have hput := lastM_put (t := l.take i) (c := x) (fun z hz => by rw [hlast] at hz; cases hz; exact hq)
          have HPUT := Lib.hid hput
          clear hput hlast
          generalize cmpK x.1 y.1 = q at *
          go_upto_region 6 with (first
            | (refine wp_loadN rfl 26 _ rfl wr.heap.size 34 rfl (keyV x.2.1) _ HDOC.out Tryz.underlying26 rfl (by rw [keyV_length hkd]; exact sizeKey) ?_)
            | (refine wp_mapGet2 rfl _ _ 43 rfl 29 keyEnc Tryz.underlying43 (claimA zeroC) (zeroC_run _) rfl hM2.out x.2.1 hkd rfl ?_; rw [HLM.out]; simp only [Option.getD_some, Option.isSome_some])
            | (refine wp_storeN (B := W2.heap.size) (w0 := W2) rfl 29 _ _ rfl W2.heap.size _ rfl rfl 29 _ (heap_alloc_new _ _) (by rw [List.size_toArray, claimV_length HY.out]; exact sizeClaim) (by rw [show (claimV y).toArray.size = 70 by rw [List.size_toArray, claimV_length HY.out]]; rfl) (by simpa using claimV_one y) ((Below.refl _ _).alloc (Nat.le_refl _) _) (Nat.le_refl _) ?_; intro W3 hbW3 hW3 _))
          obtain ⟨cl3, _⟩ := bcell hbW3
          have hM3 := Lib.hid (hM2.out.below hbW3)
          have D3 : Hid (∀ j u, (keyV x.2.1)[j]? = some u → W3.cell? ⟨wr.heap.size, 34 + j, none⟩ = some u) := fun j u hj => (cl3 _ _ HZ2.out).trans (HDOC.out j u hj)
          have A3 : Hid (∀ j u, (claimV x)[j]? = some u → W3.cell? ⟨wr.heap.size, 0 + j, none⟩ = some u) := fun j u hj => (cl3 _ _ HZ2.out).trans (HALL.out j u hj)
          have K3 : Hid (W3.rangeAt wr.heap.size 0 (keyV x.1)) := fun j u hj => A3.out j u (by have := claim_key HX.out j u hj; rwa [Nat.zero_add] at this)
          have L3 : Hid (W3.rangeAt W2.heap.size 0 (keyV y.1)) := fun j u hj => (cells_box hW3 (0 + j)).trans (claim_key HY.out j u hj)
          have HZ3 : Hid (wr.heap.size < W3.heap.size) := Nat.lt_of_lt_of_le HZ2.out hbW3.size
          have hb3 : Below w.heap.size w W3 := (hbr.trans (HB2.out.mono hbr.size)).trans (hbW3.mono (Nat.le_trans hbr.size HB2.out.size))
          have HB3 := Lib.hid hb3
          clear hb3 cl3 hW3 hbW3 hbr
          have hcmp := hkeys W3
          clear hkeys
          go_wp2_with (first
            | (refine wp_val (by rfl) (ex_load 26 _ rfl (p := ⟨wr.heap.size, 0, none⟩) rfl (run_loadVar_mid W3 _ _ _ (keyV x.1) _ K3.out Tryz.underlying26 rfl (by rw [keyV_length hkk]; exact sizeKey))) ?_)
            | (refine wp_val (by rfl) (ex_load 26 _ rfl (p := ⟨W2.heap.size, 0, none⟩) rfl (run_loadVar_mid W3 _ _ _ (keyV y.1) _ L3.out Tryz.underlying26 rfl (by rw [keyV_length hky]; exact sizeKey))) ?_)
            | (go_at_call 19; refine hcmp.mono ?_; rintro e w5 ⟨hb5, rfl⟩
               obtain ⟨cl5, _⟩ := bcell hb5
               have hM5 := Lib.hid (hM3.out.below hb5)
               have D5 : Hid (∀ j u, (keyV x.2.1)[j]? = some u → w5.cell? ⟨wr.heap.size, 34 + j, none⟩ = some u) := fun j u hj => (cl5 _ _ HZ3.out).trans (D3.out j u hj)
               have A5 : Hid (∀ j u, (claimV x)[j]? = some u → w5.cell? ⟨wr.heap.size, 0 + j, none⟩ = some u) := fun j u hj => (cl5 _ _ HZ3.out).trans (A3.out j u hj)
               have HB5 := Lib.hid (HB3.out.trans (hb5.mono HB3.out.size))
               clear cl5 hb5)
            | (refine wp_loadN rfl 26 _ rfl wr.heap.size 34 rfl (keyV x.2.1) _ D5.out Tryz.underlying26 rfl (by rw [keyV_length hkd]; exact sizeKey) ?_)
            | (refine wp_loadN rfl 29 _ rfl wr.heap.size 0 rfl (claimV x) _ A5.out Tryz.underlying29 rfl (by rw [claimV_length HX.out]; exact sizeClaim) ?_)
            | (refine wp_mapPut rfl _ _ _ 43 rfl 29 keyEnc Tryz.underlying43 rfl hM5.out hmax x.2.1 hkd rfl (claimA x) rfl ?_; intro W4 hM4 hg4))
          go_roundw
          case rel => exact ⟨i + 1, by omega, by go_num, HB5.out.grown hg4 HB5.out.size (fun k e => by cases e; exact Nat.le_refl _), n0 + 1, by omega, Lib.hid (by rw [HTK.out, ← HPUT.out]; exact hM4)⟩
          case measure => simp [intOf]; omega
        · have hkeep := lastM_keep hlast hq
          have HKEEP := Lib.hid hkeep
          have hq2 : cmpK x.1 y.1 ≤ 0 := by omega
          clear hkeep hlast
          generalize cmpK x.1 y.1 = q at *
          go_upto_region 6 with (first
            | (refine wp_loadN rfl 26 _ rfl wr.heap.size 34 rfl (keyV x.2.1) _ HDOC.out Tryz.underlying26 rfl (by rw [keyV_length hkd]; exact sizeKey) ?_)
            | (refine wp_mapGet2 rfl _ _ 43 rfl 29 keyEnc Tryz.underlying43 (claimA zeroC) (zeroC_run _) rfl hM2.out x.2.1 hkd rfl ?_; rw [HLM.out]; simp only [Option.getD_some, Option.isSome_some])
            | (refine wp_storeN (B := W2.heap.size) (w0 := W2) rfl 29 _ _ rfl W2.heap.size _ rfl rfl 29 _ (heap_alloc_new _ _) (by rw [List.size_toArray, claimV_length HY.out]; exact sizeClaim) (by rw [show (claimV y).toArray.size = 70 by rw [List.size_toArray, claimV_length HY.out]]; rfl) (by simpa using claimV_one y) ((Below.refl _ _).alloc (Nat.le_refl _) _) (Nat.le_refl _) ?_; intro W3 hbW3 hW3 _))
          obtain ⟨cl3, _⟩ := bcell hbW3
          have hM3 := Lib.hid (hM2.out.below hbW3)
          have D3 : Hid (∀ j u, (keyV x.2.1)[j]? = some u → W3.cell? ⟨wr.heap.size, 34 + j, none⟩ = some u) := fun j u hj => (cl3 _ _ HZ2.out).trans (HDOC.out j u hj)
          have A3 : Hid (∀ j u, (claimV x)[j]? = some u → W3.cell? ⟨wr.heap.size, 0 + j, none⟩ = some u) := fun j u hj => (cl3 _ _ HZ2.out).trans (HALL.out j u hj)
          have K3 : Hid (W3.rangeAt wr.heap.size 0 (keyV x.1)) := fun j u hj => A3.out j u (by have := claim_key HX.out j u hj; rwa [Nat.zero_add] at this)
          have L3 : Hid (W3.rangeAt W2.heap.size 0 (keyV y.1)) := fun j u hj => (cells_box hW3 (0 + j)).trans (claim_key HY.out j u hj)
          have HZ3 : Hid (wr.heap.size < W3.heap.size) := Nat.lt_of_lt_of_le HZ2.out hbW3.size
          have hb3 : Below w.heap.size w W3 := (hbr.trans (HB2.out.mono hbr.size)).trans (hbW3.mono (Nat.le_trans hbr.size HB2.out.size))
          have HB3 := Lib.hid hb3
          clear hb3 cl3 hW3 hbW3 hbr
          have hcmp := hkeys W3
          clear hkeys
          go_wp2_with (first
            | (refine wp_val (by rfl) (ex_load 26 _ rfl (p := ⟨wr.heap.size, 0, none⟩) rfl (run_loadVar_mid W3 _ _ _ (keyV x.1) _ K3.out Tryz.underlying26 rfl (by rw [keyV_length hkk]; exact sizeKey))) ?_)
            | (refine wp_val (by rfl) (ex_load 26 _ rfl (p := ⟨W2.heap.size, 0, none⟩) rfl (run_loadVar_mid W3 _ _ _ (keyV y.1) _ L3.out Tryz.underlying26 rfl (by rw [keyV_length hky]; exact sizeKey))) ?_)
            | (go_at_call 19; refine hcmp.mono ?_; rintro e w5 ⟨hb5, rfl⟩
               obtain ⟨cl5, _⟩ := bcell hb5
               have hM5 := Lib.hid (hM3.out.below hb5)
               have HB5 := Lib.hid (HB3.out.trans (hb5.mono HB3.out.size))
               clear cl5 hb5))
          go_roundw
          case rel => exact ⟨i + 1, by omega, by go_num, HB5.out, n0, by omega, Lib.hid (by rw [HTK.out, ← HKEEP.out]; exact hM5.out)⟩
          case measure => simp [intOf]; omega
    · go_wp2_with fail
      go_ret
      have e : l.take i = l := List.take_of_length_le (by omega)
      have hM2 := hM.out
      rw [e] at hM2
      exact ⟨hbr, rfl, n0, by omega, hM2⟩
end Go.Proofs.YtfjmbcljohobeaaGreatDoor
namespace Go.Proofs.YtfjmbcljohobeaaGreatDoor
open Go.RowKit Go.Maps
set_option linter.unusedVariables false
set_option linter.unusedSimpArgs false

abbrev KeyS := {k : KeyD // KeyOk k}
theorem keyV_info {k : KeyD} (h : KeyOk k) : (Tryz.prog.info? 26).map (·.size) = some (keyV k).toArray.size := by rw [List.size_toArray, keyV_length h]; exact sizeKey
theorem zeroKey : (Tryz.prog.info? 26).map (·.zero) = some (some (keyA (0, zero32, 0))) := by kernel_rfl

set_option maxRecDepth 100000 in
set_option maxHeartbeats 1000000 in
theorem keysIter_in (F : Fence) (n : Nat) (hf : F.fn 35) (hro : F.round = none) (hn : 1 ≤ n) (l Bm b nn : Nat) (m : KeyD → Option Value) (J Jx : List KeyS → World → Prop)
    (hY : ∀ pre x W, J pre W → pre.length < nn → YieldAt F (n - 1) Tryz.prog l #[keyA x.1] W fun e W' => (e = .returned (.bool true) ∧ J (pre ++ [x]) W' ∧ KeepsWalks W W') ∨ (e = .returned (.bool false) ∧ Jx (pre ++ [x]) W'))
    (W : World) (hJ : AbidesFrom W.heap.size J) (hm : W.cell? ⟨Bm, 0, none⟩ = some (.map (some b))) (hown : MapV W Tryz.prog 26 KeyOk keyL b nn m) (h0 : J [] W) :
    CallsIn F n Tryz.prog 35 #[.func (.yield l) #[] #[], .pointer (some ⟨Bm, 0, none⟩)] W fun e W' => (∃ v, e = .returned v) ∧ ((∃ ss : List KeyS, (KeysIs m ss ∧ ss.length ≤ nn) ∧ J ss W') ∨ (∃ pre, True ∧ Jx pre W')) := by
  obtain ⟨D, hD, hK, hh, hv⟩ := hown
  have hsz := hD.size_le
  have HK := Lib.hid hK; have HH := Lib.hid hh
  clear hK hh hv
  refine callsIn_of_wp Tryz.func35 rfl hf ?_ hro
  simp only [Tryz.ntmps35, List.size_toArray, List.length_cons, List.length_nil, Nat.reduceAdd, Nat.reduceSub, Array.replicate_succ, Array.replicate_zero, List.push_toArray, List.append_toArray, List.nil_append, List.cons_append]
  gi_wp2_with (first
    | (gi_at_range; refine wpListIn_range_own _ rfl _ 43 rfl 26 29 keyedKey Tryz.underlying43 Rv b nn _ rfl hD ?_; intro w0 hrg0 hg0 hs0)
    | gi_in)
  go_frame
  gi_loopw [3] (fun _ wr => ∃ (left : Lit → Bool) (cnt : Nat) (ss : List KeyS), wr.ranges Tryz.prog 26 Rv b W.heap.size nn D left cnt ∧ ss.length + cnt ≤ Maps.size D ∧ CollK keyL D left ss ∧ J ss wr)
    (fun _ wr => wr.rangeLeft b W.heap.size)
  case atStart =>
    exact ⟨_, _, [], hrg0, by simp, CollK.start D, hJ [] W w0 none h0 hg0 (fun r e => by cases e)⟩
  case round =>
    obtain ⟨left, cnt, ss, hrg, hcs, hC, hJs⟩ := hrel
    gi_wp2_with (first
      | (gi_at_next; refine wpListIn_next_ranges _ rfl _ rfl 26 keyedKey Rv (id : Value → Value) (id : Value → Value) (fun key kl hk => ⟨key, rfl⟩) (fun v y hv => ⟨v, rfl⟩) b W.heap.size nn _ _ _ rfl hrg ?_ ?_)
      | gi_in)
    · intro hc0 hl0
      gi_wp2
      go_end0
      exact ⟨⟨_, rfl⟩, .inl ⟨ss, ⟨hC.done hl0 HH.out, by omega⟩, hJs⟩⟩
    · intro x c kl yd yp w2 cnt2 hkey hlk hv hat hrg2 hlt hg2 hs2 hen
      have hhas := has_true_of_atKey hat
      obtain ⟨k, hk, rfl⟩ := HK.out.2 _ hhas
      have hxk : x = keyA k := keyedKey.inj hkey (keyEnc.of k hk)
      subst hxk
      have hJ2 : J ss w2 := hJ ss wr w2 (some W.heap.size) hJs hg2 (fun r e => by cases e; exact ⟨Nat.le_refl _, hrg.iter_walk⟩)
      clear hs2 hkey hv hat
      obtain ⟨g1, g2, g3⟩ := grown_box w2 (keyV (0, zero32, 0)).toArray (keyV k).toArray 26
      have hJ3 : J ss _ := hJ ss w2 _ none hJ2 g1 (fun r e => by cases e)
      have hrg3 := hrg2.of_walks (KeepsWalks.of_grownBy g1 (fun j o e => by cases e))
      have hst := fun (ρ : Operand → Value) (o : Oper) (x y : Operand) (ho : o.op = .store 26 x y) hx hy => ex_storeRow (P := Tryz.prog) (w := w2.alloc (.cells (keyV (0, zero32, 0)).toArray 26)) (ρ := ρ) 26 x y ho w2.heap.size (keyV k).toArray hx hy 26 (keyV (0, zero32, 0)).toArray (heap_alloc_new _ _) (keyV_info hk) (by rw [List.size_toArray, List.size_toArray, keyV_length hk]; rfl) (by simpa using keyV_one k)
      generalize (w2.alloc (.cells (keyV (0, zero32, 0)).toArray 26)).setRow w2.heap.size (keyV k).toArray = w3 at *
      have hld := fun (ρ : Operand → Value) (o : Oper) (x : Operand) (ho : o.op = .load 26 x) hx => ex_load (P := Tryz.prog) (ρ := ρ) (w := w3) 26 x ho (p := ⟨w2.heap.size, 0, none⟩) hx (run_loadVar_row w3 w2.heap.size 26 26 _ (0, 0) _ g2 Tryz.underlying26 rfl (keyV_info hk))
      obtain ⟨fn, tmps, assign, body, hy, hR⟩ := hY ss ⟨k, hk⟩ w3 hJ3 (by omega)
      simp only [keyA] at hy hen
      have HST := Lib.hid hst; have HLD := Lib.hid hld; have G2 := Lib.hid g2
      clear hst hld g1 g2 g3
      have HEN := Lib.hid hen
      gi_wp2_with (first
        | (refine wpListIn_none rfl (by intro c h; cases h) (by intro c h; cases h) (HST.out _ _ _ _ rfl rfl rfl) ?_)
        | (refine wpListIn_val rfl (by intro c h; cases h) (by intro c h; cases h) (HLD.out _ _ _ rfl rfl) ?_)
        | gi_in)
      refine hR.mono ?_
      rintro e W4 (⟨rfl, hJ4, hk4⟩ | ⟨rfl, hJ4⟩)
      · have hrg4 := hrg3.of_walks hk4
        gi_wp2
        go_roundw
        case rel => exact ⟨_, cnt2, ss ++ [⟨k, hk⟩], hrg4, by simp; omega, hC.step (x := ⟨k, hk⟩) keyEnc hlk hhas, hJ4⟩
        case measure => rw [hrg4.left_eq, hrg.left_eq]; exact hlt
      · gi_wp2
        refine bodyPost_ret (results_none rfl _ _ _) rfl ?_
        exact ⟨⟨_, rfl⟩, .inr ⟨_, trivial, hJ4⟩⟩
theorem keys_gives (F : Fence) (n : Nat) (hf : F.fn 35) (hro : F.round = none) (hn : 1 ≤ n) (Bm b nn : Nat) (m : KeyD → Option Value) (w : World) (hBm : Bm < w.heap.size)
    (hm : w.cell? ⟨Bm, 0, none⟩ = some (.map (some b))) (hown : MapV w Tryz.prog 26 KeyOk keyL b nn m) :
    SeqStopsK F n Tryz.prog 35 #[.pointer (some ⟨Bm, 0, none⟩)] (fun x : KeyS => #[keyA x.1]) KeepsWalks (fun ss => KeysIs m ss ∧ ss.length ≤ nn) (fun _ => True) nn w := fun l J Jx W hW hJ hJx hY h0 =>
  keysIter_in F n hf hro hn l Bm b nn m J Jx hY W hJ ((hW.cell (p := ⟨Bm, 0, none⟩) hBm).trans hm) (hown.below hW) h0

set_option maxHeartbeats 1000000 in
theorem keysSeq_in (F : Fence) (n : Nat) (hf : F.fn 21) (hro : F.round = none) (mb : Option Nat) (w : World) :
    CallsIn F n Tryz.prog 21 #[.map mb] w fun e w' => e = .returned (.func (.func 35) #[] #[.pointer (some ⟨w.heap.size, 0, none⟩)]) ∧ w' = w.alloc (.cells #[.map mb] 43) := by
  refine callsIn_of_wp Tryz.func21 rfl hf ?_ hro
  simp only [Tryz.ntmps21, List.size_toArray, List.length_cons, List.length_nil, Nat.reduceAdd, Nat.reduceSub, Array.replicate_succ, Array.replicate_zero, List.push_toArray, List.append_toArray, List.nil_append, List.cons_append]
  gi_wp2
  go_ret
  exact ⟨rfl, rfl⟩
end Go.Proofs.YtfjmbcljohobeaaGreatDoor
namespace Go.Proofs.YtfjmbcljohobeaaGreatDoor
open Go.RowKit Go.Maps Go.Shelf
set_option linter.unusedVariables false
set_option linter.unusedSimpArgs false
attribute [local go_sem] Oper.semAt_some

theorem keyInfo : (Tryz.prog.info? 26).map (fun i => (i.zero, i.size, i.bytes)) = some (some (keyA (0, zero32, 0)), 34, 48) := by kernel_rfl
/-- A block that holds a key. -/
def KeyBox (W : World) (B : Nat) (k : KeyD) : Prop := W.heap[B]? = some (.cells (keyV k).toArray 26 (0, 0))
theorem keyBox_own (B : Nat) (k : KeyD) : Own (fun (_ : Unit) W => KeyBox W B k) := fun s X Y row hs hg hrow => by
  have hlt := (Array.getElem?_eq_some_iff.1 (show X.heap[B]? = _ from hs)).1
  refine (hg.block B hlt fun e => ?_).trans hs
  obtain ⟨o, ho, hc⟩ := hrow B e.symm
  rw [show X.heap[B]? = _ from hs] at ho; cases ho; cases hc
def keysV (ss : List KeyS) : List Value := ss.flatMap fun k => keyV k.1

set_option maxRecDepth 100000 in
set_option maxHeartbeats 2000000 in
theorem appSeq_in (F : Fence) (n : Nat) (hf : F.fn 47) (hro : F.round = none) (hn : 2 ≤ n) (g : Nat) (lb : Array Value) (hFg : F.fn g) (eg : ∀ args w, (callFunc g args).run Tryz.prog w = .ok (.enter g args) w)
    (S Sp : List KeyS → Prop) (N : Nat) (hN : N ≤ 1099511627776) (w : World) (hseq : SeqStopsK F (n - 1) Tryz.prog g lb (fun x : KeyS => #[keyA x.1]) KeepsWalks S Sp N w) :
    CallsIn F n Tryz.prog 47 #[.slice none 0 0, .func (.func g) #[] lb] w fun e w' => ∃ (v : Value) (ss : List KeyS), e = .returned v ∧ S ss ∧ w'.ownsRow w.heap.size 26 34 v ss.length (keysV ss) ∧ (v = .slice none 0 0 ↔ ss = []) ∧ Below w.heap.size w w' := by
  have h1 : 1 ≤ n := by omega
  obtain ⟨i0, hi, hz0, hz1, hz2⟩ := info_parts keyInfo
  refine callsIn_of_wp_marks Tryz.func47 rfl hf ?_ hro
  simp only [Tryz.ntmps47, List.size_toArray, List.length_cons, List.length_nil, Nat.reduceAdd, Nat.reduceSub, Array.replicate_succ, Array.replicate_zero, List.push_toArray, List.append_toArray, List.nil_append, List.cons_append]
  gi_wp2
  have hW0s : (w.alloc (.cells #[.slice none 0 0] 56)).heap.size = w.heap.size + 1 := by simp
  have bS := Boxed.new w 56 (.slice none 0 0)
  have hB0 : Below w.heap.size w (w.alloc (.cells #[.slice none 0 0] 56)) := (Below.refl _ w).alloc (Nat.le_refl _) _
  have hnil : (w.alloc (.cells #[.slice none 0 0] 56)).ownsRow w.heap.size 26 34 (.slice none 0 0) 0 [] := ⟨rfl, .inl ⟨rfl, rfl⟩⟩
  generalize hW0 : w.alloc (.cells #[.slice none 0 0] 56) = W0 at *
  clear hW0
  refine wpIn_rangeFunc_ownH hro h1 (gf := g) (lb := lb) rfl hFg eg hseq walksK_t walksK_b hB0 (fun _ => rfl)
    (fun pre W => (∃ v, Boxed W w.heap.size 56 v ∧ W.ownsRow w.heap.size 26 34 v pre.length (keysV pre) ∧ (v = .slice none 0 0 ↔ pre = [])) ∧ Below w.heap.size w W)
    (fun _ _ _ => False)
    (OwnFrom.and (Own.from (holdsRow_own w.heap.size w.heap.size 56 26 34 (fun pre : List KeyS => pre.length) (fun pre => keysV pre) (fun pre v => v = .slice none 0 0 ↔ pre = [])) _) (ownFrom_below (Nat.le_refl _) (by omega)))
    (fun _ _ _ _ _ hs _ _ => hs)
    ⟨⟨_, bS, hnil, by simp⟩, hB0⟩
    (fun x a' W => ∃ Bx, w.heap.size < Bx ∧ KeyBox W Bx x.1 ∧ a' = { tmps := #[.slice none 0 0, .func (.func g) #[] lb, .pointer (some ⟨w.heap.size, 0, none⟩), undef, .slice none 0 0, .pointer (some ⟨Bx, 0, none⟩), .func (.func g) #[] lb, keyA x.1, undef, undef, undef, undef, undef], defers := [] })
    (fun x a' _ X Y row hs hg hr => by obtain ⟨Bx, h1, h2, h3⟩ := hs; exact ⟨Bx, h1, keyBox_own Bx x.1 () X Y row h2 hg (fun r e => (hr r e).2), h3⟩)
    ?assign ?body ?done ?stop
  case assign =>
    rintro l pre x W K ⟨⟨v, bv, hr, hv⟩, hB⟩ hK
    obtain ⟨g1, g2, g3⟩ := grown_box W (keyV (0, zero32, 0)).toArray (keyV x.1).toArray 26
    have hst := fun (ρ : Operand → Value) (o : Oper) (p y : Operand) (ho : o.op = .store 26 p y) hx hy => ex_storeRow (P := Tryz.prog) (w := W.alloc (.cells (keyV (0, zero32, 0)).toArray 26)) (ρ := ρ) 26 p y ho W.heap.size (keyV x.1).toArray hx hy 26 (keyV (0, zero32, 0)).toArray (heap_alloc_new _ _) (keyV_info x.2) (by rw [List.size_toArray, List.size_toArray, keyV_length x.2]; rfl) (by simpa using keyV_one x.1)
    have HST := Lib.hid hst
    clear hst
    generalize (W.alloc (.cells (keyV (0, zero32, 0)).toArray 26)).setRow W.heap.size (keyV x.1).toArray = W3 at *
    gi_wp2_with (first
      | (refine wpListIn_none rfl (by intro c h; cases h) (by intro c h; cases h) (HST.out _ _ _ _ rfl rfl rfl) ?_)
      | gi_in)
    refine hK _ _ ((KeepsOthers.of_grownBy g1 (fun j o e => by cases e)).from _) (KeepsWalks.of_grownBy g1 (fun j o e => by cases e)) ⟨⟨v, bv.kept g1 (by simp), hr.kept g1 ?_, hv⟩, hB.grown g1 hB.size (fun k e => by cases e)⟩ ⟨W.heap.size, bv.lt, g2, rfl⟩
    cases hvb : v.ownBlock with
    | none => exact .inl rfl
    | some b => exact .inr (by simp)
  case body =>
    rintro l pre x a' W hl ⟨r, hr⟩ ⟨⟨v, bv, hrow, hv⟩, hB⟩ ⟨Bx, hBx, bX, rfl⟩ hlt
    have hv1 := bv.cell
    have hsB := hB.size
    have hm1 : pre.length + 1 ≤ maxLen := by unfold maxLen; omega
    have hm2 : (pre.length + 1) * 48 ≤ 140737488355328 := by omega
    have hld := fun (W1 : World) (hb : KeyBox W1 Bx x.1) (ρ : Operand → Value) (o : Oper) (p : Operand) (ho : o.op = .load 26 p) hx => ex_load (P := Tryz.prog) (ρ := ρ) (w := W1) 26 p ho (p := ⟨Bx, 0, none⟩) hx (run_loadVar_row W1 Bx 26 26 _ (0, 0) _ hb Tryz.underlying26 rfl (keyV_info x.2))
    have hbs := fun (ρ : Operand → Value) (o : Oper) (p : Operand) (ho : o.op = .buildSlice 56 1 #[(0, p)]) hx => ex_buildSlice1 (P := Tryz.prog) (w := W) (ρ := ρ) 56 p ho 26 Tryz.underlying56 (keyA (0, zero32, 0)) 34 48 keyInfo rfl (by decide) (by decide) (keyV x.1) (keyV_length x.2) hx
    have HLD := Lib.hid (hld W bX); have HBS := Lib.hid hbs
    have hcells : ∀ j u, (keyV x.1)[j]? = some u → (W.alloc (.cells (keyV x.1).toArray 26)).cell? ((⟨W.heap.size, 0, none⟩ : Addr).add j) = some u := by
      intro j u hj
      rw [Addr.add_mid, cells_box (heap_alloc_new _ _)]
      simpa using hj
    have HCL := Lib.hid hcells
    clear hld hbs hcells
    gi_wp2_with (first
      | ((with_reducible refine wpListIn_val rfl ?_ ?_ (HLD.out _ _ (.tmp 5) ?_ ?_) ?_)
         · intro c h; cases h
         · intro c h; cases h
         · with_reducible exact rfl
         · exact rfl)
      | ((with_reducible refine wpListIn_val rfl ?_ ?_ (HBS.out _ _ (.tmp 9) ?_ ?_) ?_)
         · intro c h; cases h
         · intro c h; cases h
         · with_reducible exact rfl
         · exact rfl)
      | (gi_at_builtin; refine wpListIn_append_own _ rfl _ _ 56 rfl w.heap.size 26 i0 (keyA (0, zero32, 0)) 34 48 Tryz.underlying56 hi hz0 hz1 hz2 rfl (by decide) _ _ _ rfl (hrow.alloc _) ⟨W.heap.size, 0, none⟩ 1 1 (keyV x.1) rfl (by rw [keyV_length x.2]) HCL.out (keyV_one x.1) hm1 hm2 (by simp; omega) ?_; intro v' w1 hown' hgrow _; obtain ⟨g', cap', rfl⟩ := ownsRow_succ hown'; obtain ⟨hv1, hv2, hr2, hk2, hb2⟩ := bv.appended (by decide) hrow hB.size (Nat.le_refl _) hown' hgrow; have hc1 := hv1.cell; have hf1 := hv1.frozen)
      | gi_in)
    have hr3 := hr2
    rw [show keysV pre ++ keyV x.1 = keysV (pre ++ [x]) by simp [keysV]] at hr3
    exact ⟨hk2.from _, hk2.walks, ⟨_, hv2, by simpa using hr3, by simp⟩, hB.trans hb2⟩
  case done =>
    rintro D zs W hD hS ⟨⟨v, bv, hrow, hv⟩, hB⟩ hK
    have cS := bv.cell
    gi_wp2
    refine ⟨by simp, .inl ⟨_, _, rfl, run_takeDeferred hK, ?_⟩⟩
    exact ⟨_, results_tmp rfl _ _ _, v, zs, rfl, hS, ownsRow_putObj hrow _ hK rfl, hv, hB.trans (belowK_b (w := w) (Nat.le_refl _) W D _ _ (by omega) hK rfl rfl)⟩
  case stop =>
    rintro D c pre W _ _ h _
    exact h.elim

set_option maxHeartbeats 1000000 in
theorem collect_in (F : Fence) (n : Nat) (hf : F.fn 33) (hf2 : F.fn 47) (hro : F.round = none) (hn : 3 ≤ n) (g : Nat) (lb : Array Value) (hFg : F.fn g) (eg : ∀ args w, (callFunc g args).run Tryz.prog w = .ok (.enter g args) w)
    (S Sp : List KeyS → Prop) (N : Nat) (hN : N ≤ 1099511627776) (w : World) (hseq : SeqStopsK F (n - 1 - 1) Tryz.prog g lb (fun x : KeyS => #[keyA x.1]) KeepsWalks S Sp N w) :
    CallsIn F n Tryz.prog 33 #[.func (.func g) #[] lb] w fun e w' => ∃ (v : Value) (ss : List KeyS), e = .returned v ∧ S ss ∧ w'.ownsRow w.heap.size 26 34 v ss.length (keysV ss) ∧ (v = .slice none 0 0 ↔ ss = []) ∧ Below w.heap.size w w' := by
  have h1 : 1 ≤ n := by omega
  refine callsIn_of_wp Tryz.func33 rfl hf ?_ hro
  simp only [Tryz.ntmps33, List.size_toArray, List.length_cons, List.length_nil, Nat.reduceAdd, Nat.reduceSub, Array.replicate_succ, Array.replicate_zero, List.push_toArray, List.append_toArray, List.nil_append, List.cons_append]
  gi_wp2_with (gi_at_call 47; refine (appSeq_in F (n - 1) hf2 hro (by omega) g lb hFg eg S Sp N hN _ hseq).mono ?_; rintro e w' ⟨v, ss, rfl, hS, hrow, hnil, hb⟩)
  go_ret
  exact ⟨v, ss, rfl, hS, hrow, hnil, hb⟩
end Go.Proofs.YtfjmbcljohobeaaGreatDoor
namespace Go.Proofs.YtfjmbcljohobeaaGreatDoor
open Go.RowKit Go.Sort
set_option linter.unusedVariables false

section
variable {α : Type} [Inhabited α] {enc : α → List Value} {k : Nat}
theorem flatK_is (hk : ∀ x, (enc x).length = k) (hk0 : 0 < k) (l : List α) : flatK enc k l.toArray = (rowsV enc l).toArray := by
  have hl : (rowsV enc l).length = l.length * k := rowsV_length fun x _ => hk x
  refine ext_get! (by simp [hl]) fun t ht => ?_
  have ht' : t < l.length * k := by simpa using ht
  rw [get_flatK enc k l.toArray t (by simpa using ht')]
  have hi : t / k < l.length := (Nat.div_lt_iff_lt_mul hk0).2 ht'
  have hm : t % k < k := Nat.mod_lt _ hk0
  have hg := rowsV_get (l := l) (fun x _ => hk x) (t / k) hi (t % k) _ (List.getElem?_eq_getElem (by rw [hk]; exact hm))
  rw [show t / k * k + t % k = t by rw [Nat.mul_comm]; exact Nat.div_add_mod t k] at hg
  rw [show (l.toArray)[t / k]! = l[t / k] by simp [hi], getElem!_pos _ _ (by rw [hk]; exact hm), getElem!_pos _ _ (by simpa [hl] using ht')]
  obtain ⟨_, h2⟩ := List.getElem?_eq_some_iff.1 hg
  simpa using h2.symm
variable {w : World} {base g cap : Nat} {e : TypeId} {cur : Array Value} {l : List α}
theorem holdsK_of_block (hk : ∀ x, (enc x).length = k) (hk0 : 0 < k) (hb : w.heap[g]? = some (.cells cur e (0, 0))) (ht : cur.toList.take (l.length * k) = rowsV enc l) : HoldsK enc k w g 0 l.toArray := by
  unfold HoldsK
  rw [flatK_is hk hk0]
  intro j hj
  have hl : (rowsV enc l).length = l.length * k := rowsV_length fun x _ => hk x
  have hj' : j < (rowsV enc l).length := by simpa using hj
  refine ⟨?_, by simp [World.frozen?, hb]⟩
  have h1 : (cur.toList.take (l.length * k))[j]? = (rowsV enc l)[j]? := by rw [ht]
  rw [List.getElem?_take_of_lt (by omega)] at h1
  simp only [World.cell?, hb, Nat.zero_add]
  simp only [Option.isSome_none, Bool.false_eq_true, if_false]
  rw [← Array.getElem?_toList, h1]
  simp [hj']
/-- Behind the sort the slice reads as the sorted list; what lay is as it was. -/
theorem sortedK_sl (hk : ∀ x, (enc x).length = k) (hk0 : 0 < k) (hb : w.heap[g]? = some (.cells cur e (0, 0))) (hH : HoldsK enc k w g 0 l.toArray) (hbase : base ≤ g) {t : List α} (ht : t.length = l.length) (m : Nat) (os : Array Obj) (w0 : World) (hw : Below base w0 w) :
    Sl (sortWorldK enc k w g 0 m t.toArray os) (sortWorldK enc k w g 0 m t.toArray os).heap.size (some ⟨g, 0, none⟩) l.length k (rowsV enc t) ∧ Below base w0 (sortWorldK enc k w g 0 m t.toArray os) := by
  have hg : g < w.heap.size := (Array.getElem?_eq_some_iff.1 hb).1
  have hlt : (rowsV enc t).length = t.length * k := rowsV_length fun x _ => hk x
  have hll : (rowsV enc l).length = l.length * k := rowsV_length fun x _ => hk x
  unfold HoldsK at hH
  rw [flatK_is hk hk0] at hH
  have hH2 : Holds id (Sort.ahead w m) g 0 (rowsV enc l).toArray := hH
  have hsz : (grow (putRow id (Sort.ahead w m) g 0 (rowsV enc t).toArray) os).heap.size = w.heap.size + os.size := by
    unfold grow putRow mapBlock Sort.ahead
    simp
  unfold sortWorldK putRowK
  rw [flatK_is hk hk0]
  refine ⟨⟨by rw [hlt, ht], fun _ => ⟨g, 0, rfl, by rw [hsz]; omega, fun j u hu => ?_⟩⟩, ?_⟩
  · obtain ⟨hj, hu2⟩ := List.getElem?_eq_some_iff.1 hu
    have hc := cell?_putRow id (Sort.ahead w m) g 0 (rowsV enc l).toArray (rowsV enc t).toArray hH2 (by simp [hlt, hll, ht]) j (by simpa using hj)
    have hc2 : (grow (putRow id (Sort.ahead w m) g 0 (rowsV enc t).toArray) os).cell? ⟨g, 0 + j, none⟩ = (putRow id (Sort.ahead w m) g 0 (rowsV enc t).toArray).cell? ⟨g, 0 + j, none⟩ := by
      unfold World.cell? grow
      simp only
      rw [Array.getElem?_append_left (by unfold putRow mapBlock Sort.ahead; simpa using hg)]
    rw [hc2, hc]
    simp [hj, hu2]
  · refine hw.trans ⟨rfl, rfl, rfl, by rw [hsz]; omega, fun q hq => ?_⟩
    unfold grow
    simp only
    rw [Array.getElem?_append_left (by unfold putRow mapBlock Sort.ahead; simp; omega)]
    unfold putRow mapBlock Sort.ahead
    simp only
    rw [Array.getElem?_modify, if_neg (by omega)]
end
end Go.Proofs.YtfjmbcljohobeaaGreatDoor
namespace Go.Proofs
open Go.Shelf
def Tryz.laysSortKeys_ren : Go.Shelf.Ren := ⟨fun | 6 => 34 | 15 => 49 | 14 => 48 | 28 => 66 | 29 => 67 | 20 => 58 | 21 => 59 | 22 => 60 | 23 => 61 | 24 => 62 | 25 => 63 | 26 => 64 | 27 => 65 | 46 => 78 | 47 => 79 | 48 => 80 | 49 => 81 | 50 => 82 | 57 => 94 | n => n, fun | 22 => 56 | 24 => 26 | 25 => 50 | 3 => 3 | 39 => 88 | 0 => 0 | 53 => 104 | 55 => 106 | 4 => 4 | 46 => 97 | 45 => 96 | 50 => 101 | 5 => 5 | 9 => 9 | 66 => 113 | 70 => 117 | 76 => 127 | 77 => 128 | n => n, fun | n => n⟩
theorem Tryz.laysSortKeys : Go.Proofs.SlLaysF0.n6 Tryz.prog Tryz.laysSortKeys_ren := {
  mixed := by kernel_rfl
  f6 := ⟨Tryz.f34.name, by decide, Tryz.func34.trans (congrArg some (by kernel_rfl))⟩
  f14 := ⟨Tryz.f48.name, by decide, Tryz.func48.trans (congrArg some (by kernel_rfl))⟩
  f15 := Tryz.func49.trans (congrArg some (by kernel_rfl))
  f20 := ⟨Tryz.f58.name, by decide, Tryz.func58.trans (congrArg some (by kernel_rfl))⟩
  f21 := ⟨Tryz.f59.name, by decide, Tryz.func59.trans (congrArg some (by kernel_rfl))⟩
  f22 := ⟨Tryz.f60.name, by decide, Tryz.func60.trans (congrArg some (by kernel_rfl))⟩
  f23 := ⟨Tryz.f61.name, by decide, Tryz.func61.trans (congrArg some (by kernel_rfl))⟩
  f24 := ⟨Tryz.f62.name, by decide, Tryz.func62.trans (congrArg some (by kernel_rfl))⟩
  f25 := ⟨Tryz.f63.name, by decide, Tryz.func63.trans (congrArg some (by kernel_rfl))⟩
  f26 := ⟨Tryz.f64.name, by decide, Tryz.func64.trans (congrArg some (by kernel_rfl))⟩
  f27 := ⟨Tryz.f65.name, by decide, Tryz.func65.trans (congrArg some (by kernel_rfl))⟩
  f28 := Tryz.func66.trans (congrArg some (by kernel_rfl))
  f29 := Tryz.func67.trans (congrArg some (by kernel_rfl))
  f46 := ⟨Tryz.f78.name, by decide, Tryz.func78.trans (congrArg some (by kernel_rfl))⟩
  f47 := Tryz.func79.trans (congrArg some (by kernel_rfl))
  f48 := Tryz.func80.trans (congrArg some (by kernel_rfl))
  f49 := ⟨Tryz.f81.name, by decide, Tryz.func81.trans (congrArg some (by kernel_rfl))⟩
  f50 := ⟨Tryz.f82.name, by decide, Tryz.func82.trans (congrArg some (by kernel_rfl))⟩
  f57 := ⟨Tryz.f94.name, by decide, Tryz.func94.trans (congrArg some (by kernel_rfl))⟩
  t0 := Tryz.underlying0
  a0 := Tryz.isAgg0
  z0 := Tryz.sizeOf0
  v0 := Tryz.zeroValue0
  t3 := Tryz.underlying3
  a3 := Tryz.isAgg3
  z3 := Tryz.sizeOf3
  v3 := Tryz.zeroValue3
  t4 := Tryz.underlying4
  a4 := Tryz.isAgg4
  z4 := Tryz.sizeOf4
  v4 := Tryz.zeroValue4
  t5 := Tryz.underlying5
  a5 := Tryz.isAgg5
  z5 := Tryz.sizeOf5
  v5 := Tryz.zeroValue5
  t9 := Tryz.underlying9
  a9 := Tryz.isAgg9
  z9 := Tryz.sizeOf9
  v9 := Tryz.zeroValue9
  t22 := Tryz.underlying56
  a22 := Tryz.isAgg56
  z22 := Tryz.sizeOf56
  v22 := Tryz.zeroValue56
  t25 := Tryz.underlying50
  a25 := Tryz.isAgg50
  z25 := Tryz.sizeOf50
  v25 := Tryz.zeroValue50
  t39 := Tryz.underlying88
  a39 := Tryz.isAgg88
  z39 := Tryz.sizeOf88
  v39 := Tryz.zeroValue88
  t45 := Tryz.underlying96
  a45 := Tryz.isAgg96
  z45 := Tryz.sizeOf96
  v45 := Tryz.zeroValue96
  t46 := Tryz.underlying97
  a46 := Tryz.isAgg97
  z46 := Tryz.sizeOf97
  v46 := Tryz.zeroValue97
  t50 := Tryz.underlying101
  a50 := Tryz.isAgg101
  z50 := Tryz.sizeOf101
  v50 := Tryz.zeroValue101
  t53 := Tryz.underlying104
  a53 := Tryz.isAgg104
  z53 := Tryz.sizeOf104
  v53 := Tryz.zeroValue104
  t55 := Tryz.underlying106
  a55 := Tryz.isAgg106
  z55 := Tryz.sizeOf106
  v55 := Tryz.zeroValue106
  t66 := Tryz.underlying113
  a66 := Tryz.isAgg113
  z66 := Tryz.sizeOf113
  v66 := Tryz.zeroValue113
  t70 := Tryz.underlying117
  a70 := Tryz.isAgg117
  z70 := Tryz.sizeOf117
  v70 := Tryz.zeroValue117
  t76 := Tryz.underlying127
  a76 := Tryz.isAgg127
  z76 := Tryz.sizeOf127
  v76 := Tryz.zeroValue127
  t77 := Tryz.underlying128
  a77 := Tryz.isAgg128
  z77 := Tryz.sizeOf128
  v77 := Tryz.zeroValue128 }
end Go.Proofs
namespace Go.Proofs.YtfjmbcljohobeaaGreatDoor
open Go.RowKit Go.Maps Go.Shelf Go.Sort
set_option linter.unusedVariables false
set_option linter.unusedSimpArgs false

instance : Inhabited KeyS := ⟨⟨(0, zero32, 0), ⟨by decide, zero32_ok, by decide⟩⟩⟩
def cmpS (a b : KeyS) : Int := cmpK a.1 b.1
theorem ltS (a b : KeyS) : ltOf cmpS a b = decide (cmpK a.1 b.1 < 0) := rfl
theorem swoS : SWO (ltOf cmpS) where
  irrefl x := by rw [ltS, cmpK_self]; rfl
  trans x y z h1 h2 := by
    rw [ltS, decide_eq_true_eq] at *
    exact cmpK_trans h1 h2
  ntrans x y z h1 h2 := by
    rw [ltS, decide_eq_false_iff_not] at *
    intro h
    rcases cmpK_cases x.1 y.1 with q | q | q
    · exact h1 q
    · rw [q] at h; exact h2 h
    · exact h2 (cmpK_trans q h)
theorem partS (x y : KeyS) (h1 : ltOf cmpS x y = false) (h2 : ltOf cmpS y x = false) : x = y := by
  rw [ltS, decide_eq_false_iff_not] at *
  rcases cmpK_cases x.1 y.1 with q | q | q
  · exact absurd q h1
  · exact Subtype.ext q
  · exact absurd q h2

set_option maxHeartbeats 1000000 in
set_option maxRecDepth 100000 in
theorem closure_gr (a b : KeyD) (w : World) (ha : KeyOk a) (hb : KeyOk b) :
    Calls Tryz.prog 22 #[.agg (keyV a).toArray, .agg (keyV b).toArray] w fun e w' => Gr w w' ∧ e = .returned (.int .i64 (cmpK a b)) := by
  have hA0 : (w.alloc (.cells (keyV a).toArray 26)).heap[w.heap.size]? = some (.cells (keyV a).toArray 26 (0, 0)) := heap_alloc_new _ _
  go_enter Tryz.func22, Tryz.ntmps22
  go_upto_region 1 with fail
  have hA : ((w.alloc (.cells (keyV a).toArray 26)).alloc (.cells (keyV b).toArray 26)).heap[w.heap.size]? = some (.cells (keyV a).toArray 26 (0, 0)) := by
    exact (heap_alloc_old (w.alloc (.cells (keyV a).toArray 26)) _ (by simp)).trans hA0
  have hB : ((w.alloc (.cells (keyV a).toArray 26)).alloc (.cells (keyV b).toArray 26)).heap[w.heap.size + 1]? = some (.cells (keyV b).toArray 26 (0, 0)) := by
    have := heap_alloc_new (w.alloc (.cells (keyV a).toArray 26)) (.cells (keyV b).toArray 26)
    rw [World.size_alloc] at this
    exact this
  have hG : Gr w ((w.alloc (.cells (keyV a).toArray 26)).alloc (.cells (keyV b).toArray 26)) := ((Gr.refl _).alloc _).alloc _
  clear hA0
  generalize (w.alloc (.cells (keyV a).toArray 26)).alloc (.cells (keyV b).toArray 26) = W at *
  have HA := Lib.hid hA; have HB := Lib.hid hB; have HG := Lib.hid hG
  clear hA hB hG
  have hcall := keys_gr a b W ha hb
  go_wp2_with (first
    | (refine wpList_load_row rfl 26 _ rfl w.heap.size rfl 26 _ (0, 0) _ HA.out Tryz.underlying26 rfl (keyV_info ha) ?_)
    | (refine wpList_load_row rfl 26 _ rfl (w.heap.size + 1) rfl 26 _ (0, 0) _ HB.out Tryz.underlying26 rfl (keyV_info hb) ?_)
    | (go_at_call 19; refine hcall.mono ?_; rintro e w5 ⟨hb5, rfl⟩))
  go_ret
  exact ⟨HG.out.trans hb5, rfl⟩
theorem cmpLays (blk off size : Nat) (w : World) : CmpLays Tryz.prog 22 #[] (fun x : KeyS => keyV x.1) 34 cmpS blk off size w :=
  fun _ _ _ _ x y => (closure_gr x.1 y.1 _ x.2 y.2).mono fun e w' ⟨⟨q, os, h⟩, he⟩ => ⟨he, q, os, h⟩

/-- Keys in order. -/
def ordS (ss : List KeyS) : List KeyS := ss.mergeSort fun x y => !(ltOf cmpS) y x
theorem ordS_perm (ss : List KeyS) : (ordS ss).Perm ss := List.mergeSort_perm _ _
theorem ordS_rising {ss : List KeyS} (hn : ss.Nodup) : Rising ((ordS ss).map (·.1)) := by
  have hp : (ordS ss).Pairwise fun a b => (!(ltOf cmpS) b a) = true := by
    refine List.pairwise_mergeSort (fun a b c h1 h2 => ?_) (fun a b => ?_) ss
    · simp only [Bool.not_eq_true'] at *
      exact swoS.ntrans _ _ _ h2 h1
    · simp only [Bool.or_eq_true, Bool.not_eq_true']
      rw [ltS, ltS, decide_eq_false_iff_not, decide_eq_false_iff_not]
      rcases cmpK_cases a.1 b.1 with q | q | q
      · left; intro h; have := cmpK_trans q h; rw [cmpK_self] at this; omega
      · left; rw [q, cmpK_self]; omega
      · right; intro h; have := cmpK_trans q h; rw [cmpK_self] at this; omega
  have hnd : (ordS ss).Nodup := (ordS_perm ss).nodup_iff.2 hn
  unfold Rising
  rw [List.pairwise_map]
  refine (hp.and hnd).imp ?_
  rintro a b ⟨h1, h2⟩
  simp only [Bool.not_eq_true'] at h1
  rw [ltS, decide_eq_false_iff_not] at h1
  rcases cmpK_cases a.1 b.1 with q | q | q
  · exact q
  · exact absurd (Subtype.ext q) h2
  · exact absurd q h1
theorem ordS_mem {m : KeyD → Option Value} {ss : List KeyS} (h : KeysIs m ss) (x : KeyS) : x ∈ ordS ss ↔ (m x.1).isSome = true := by
  rw [(ordS_perm ss).mem_iff]
  exact h.2 x

set_option maxHeartbeats 1000000 in
set_option maxRecDepth 100000 in
theorem sorted_keys (b nn : Nat) (m : KeyD → Option Value) (w : World) (hnn : nn ≤ 1099511627776) (hown : MapV w Tryz.prog 26 KeyOk keyL b nn m) (Bm : Nat) (hBm : w.cell? ⟨Bm, 0, none⟩ = some (.map (some b))) :
    Calls Tryz.prog 20 #[.func (.func 35) #[] #[.pointer (some ⟨Bm, 0, none⟩)], .func (.func 22) #[] #[]] w fun e w' =>
      Below w.heap.size w w' ∧ ∃ A c ds, (∃ ss : List KeyS, KeysIs m ss ∧ ds = (ordS ss).map (·.1)) ∧ e = .returned (.slice A ds.length c) ∧ Sl w' w'.heap.size A ds.length 34 (rowsV keyV ds) := by
  have hBl : Bm < w.heap.size := block_lt_of_cell hBm
  have hcol := fun (W : World) (hb : Below w.heap.size w W) => callsIn_wide.1 (collect_in Fence.wide 5 trivial trivial rfl (by decide) 35 #[.pointer (some ⟨Bm, 0, none⟩)] trivial (enters_of Tryz.func35 (by kernel_rfl) rfl) (fun ss => KeysIs m ss ∧ ss.length ≤ nn) (fun _ => True) nn hnn W
    (keys_gives Fence.wide (5 - 1 - 1) trivial rfl (by decide) Bm b nn m W (Nat.lt_of_lt_of_le hBl hb.size) ((hb.cell (p := ⟨Bm, 0, none⟩) hBl).trans hBm) (hown.below hb)))
  have hcl := hcol w (Below.refl _ _)
  clear hcol
  have HO := Lib.hid hown; clear hown hBm
  go_enter Tryz.func20, Tryz.ntmps20
  go_wp2_with fail
  refine hcl.mono ?_
  rintro e W1 ⟨v, ss, rfl, ⟨hS, hlen⟩, hrow, hnil, hb1⟩
  clear hcl
  have HB1 := Lib.hid hb1; have HS := Lib.hid hS
  clear hb1 hS
  rcases hrow.2 with ⟨rfl, hz⟩ | ⟨g, cap, cur, rfl, hbase, hg, r1, r2, r3, r4⟩
  · have hss : ss = [] := List.eq_nil_of_length_eq_zero hz
    subst hss
    have hcs := AnyF.slices_SortFunc_none { Tryz.laysSortKeys with } (none : Option Addr) 0 (.func (.func 22) #[] #[]) W1
    change Calls Tryz.prog 34 _ _ _ at hcs
    clear hrow hnil hz
    go_wp2_with (go_at_call 34; refine hcs.mono ?_; rintro e w5 ⟨rfl, rfl⟩)
    go_ret
    exact ⟨HB1.out, none, 0, [], ⟨[], HS.out, by simp [ordS]⟩, rfl, Sl.nil⟩
  · have hk : ∀ x : KeyS, (keyV x.1).length = 34 := fun x => keyV_length x.2
    have hH : HoldsK (fun x : KeyS => keyV x.1) 34 W1 g 0 ss.toArray := holdsK_of_block hk (by decide) hg r4
    have hgl : g < W1.heap.size := (Array.getElem?_eq_some_iff.1 hg).1
    have hsz : ss.toArray.size < 4611686018427387904 := by rw [List.size_toArray]; omega
    have hcs := AnyQ.slices_SortFunc_total Tryz.laysSortKeys 34 Tryz.isAgg26 Tryz.sizeOf26 (fun x : KeyS => keyV x.1) hk (fun x => keyV_one x.1) cmpS swoS 22 #[] g 0 cap ss.toArray W1
      (enters_of Tryz.func22 (by kernel_rfl) rfl) (cmpLays g 0 _ W1) hH hgl hsz partS
    change Calls Tryz.prog 34 _ _ _ at hcs
    have hsl := fun (n : Nat) (os : Array Obj) => sortedK_sl hk (by decide) hg hH hbase (t := ordS ss) ((ordS_perm ss).length_eq) n os w HB1.out
    have HSL := Lib.hid hsl
    clear hsl hH hrow hnil hg r4
    simp only [List.size_toArray] at hcs
    go_wp2_with (go_at_call 34; refine hcs.mono ?_; rintro e w5 ⟨rfl, n, os, rfl⟩)
    go_ret
    obtain ⟨h1, h2⟩ := HSL.out n os
    refine ⟨h2, some ⟨g, 0, none⟩, cap, (ordS ss).map (·.1), ⟨ss, HS.out, rfl⟩, ?_, ?_⟩
    · rw [List.length_map, (ordS_perm ss).length_eq]; rfl
    · rw [List.length_map, (ordS_perm ss).length_eq, show rowsV keyV ((ordS ss).map (·.1)) = rowsV (fun x : KeyS => keyV x.1) (ordS ss) by simp [rowsV, List.flatMap_map]]
      exact h1
end Go.Proofs.YtfjmbcljohobeaaGreatDoor
namespace Go.Proofs.YtfjmbcljohobeaaGreatDoor
open Go.RowKit Go.Maps
set_option linter.unusedVariables false

section
variable {P : Program} {K : TypeId} {κ : Type} {ok : κ → Prop} {val : κ → Value} {kl : κ → Lit} {w : World} {b n : Nat} {m : κ → Option Value}
theorem EqT.law {t : TypeId} {d : Nat} (E : EqT P t d) : WideMaps.KeyLaw P t := deep_law_laid E.laid (m := P.types.size + 1) E.few E.row E.key E.wide

theorem MapV.update {t e : TypeId} [DecidableEq κ] (E : KeyEnc P K ok val kl) (ht : P.underlying t = some (.map K e)) (h : MapV w P K ok kl b n m) (hn : n < maxLen) {k0 : κ} (hk : ok k0) (v0 : Value) :
    ∃ w', (Instr.mapUpdate t (.map (some b)) (val k0) v0).run P w = .ok () w' ∧ MapV w' P K ok kl b (n + 1) (fun k => if k = k0 then some v0 else m k) ∧ w.grownBy w' (some b) := by
  obtain ⟨D, h1, h2, h3, h4⟩ := h
  obtain ⟨w', hrun, ho, hg⟩ := h1.update E.keyed ht hn (val := v0) (d := .held v0) (ps := []) (E.of k0 hk) rfl
  obtain ⟨g1, g2, g3⟩ := put_view E h2 h3 h4 hk v0
  exact ⟨w', hrun, ⟨_, ho, g1, g2, g3⟩, hg⟩
theorem setBlock_same {w : World} {b : Nat} {o : Obj} (h : w.heap[b]? = some o) : Go.ChangeMaps.setBlock w b o = w := by
  unfold Go.ChangeMaps.setBlock
  obtain ⟨hlt, hb⟩ := Array.getElem?_eq_some_iff.1 h
  have : w.heap.setIfInBounds b o = w.heap := by
    apply Array.ext_getElem?
    intro j
    by_cases e : b = j
    · subst e; simp [hlt, hb]
    · rw [Array.getElem?_setIfInBounds_ne e]
  rw [this]

/-- What a look gives. -/
theorem MapV.look {t e : TypeId} (E : KeyEnc P K ok val kl) (ht : P.underlying t = some (.map K e)) {z : Value} (hz : ∀ u : World, (zeroValue e).run P u = .ok z u) (h : MapV w P K ok kl b n m) {k0 : κ} (hk : ok k0) :
    (Instr.lookup t (.map (some b)) (val k0) false).run P w = .ok ((m k0).getD z) w := by
  obtain ⟨D, h1, hm, h3, h4⟩ := h
  obtain ⟨v, ps, hrun, hv⟩ := h1.lookup E.keyed ht (hz w) (zd := .held z) (zp := []) rfl (E.of k0 hk)
  have hv' : v = (m k0).getD z := by
    have e1 : (DataW.held v : DataW Value) = D.atKey (kl k0) (.held z) := congrArg Prod.fst (Option.some.inj hv)
    rcases hmk : m k0 with _ | u
    · have hh : has D (kl k0) = false := by rw [h3 k0 hk, hmk]; rfl
      rw [atKey_of_not_has hh] at e1
      injection e1
    · rw [h4 k0 u hk hmk] at e1
      injection e1
  rw [← hv']; exact hrun
theorem ex_lookup {ρ : Operand → Value} {o : Oper} {w w' : World} (t : TypeId) (x ix : Operand) (c : Bool) (ho : o.op = .lookup t x ix c) {vm vk v : Value} (hx : ρ x = vm) (hk : ρ ix = vk) (h : (Instr.lookup t vm vk c).run P w = .ok v w') : (execOp ρ o).run P w = .ok (.value v) w' := by
  unfold execOp
  simp only [ho, hx, hk, Sem.run_bind, h, Result.andThen_ok, Sem.run_pure]
theorem ex_mapEntry {ρ : Operand → Value} {o : Oper} {w w' : World} (t : TypeId) (x ix : Operand) (ho : o.op = .mapEntry t x ix) {vm vk v : Value} (hx : ρ x = vm) (hk : ρ ix = vk) (h : (Instr.mapEntry t vm vk).run P w = .ok v w') : (execOp ρ o).run P w = .ok (.value v) w' := by
  unfold execOp
  simp only [ho, hx, hk, Sem.run_bind, h, Result.andThen_ok, Sem.run_pure]
theorem ex_entryStore {ρ : Operand → Value} {o : Oper} {w w' : World} (t : TypeId) (x s y : Operand) (ho : o.op = .entryStore t x s y) {vm vs v : Value} (hx : ρ x = vm) (hs : ρ s = vs) (hy : ρ y = v) (h : (Instr.entryStore t vm vs v).run P w = .ok () w') : (execOp ρ o).run P w = .ok .skip w' := by
  unfold execOp
  simp only [ho, hx, hs, hy, Sem.run_bind, h, Result.andThen_ok, Sem.run_pure]

open Go.ChangeMaps in
/-- The entry of 'm[k] op= x', and the store behind it. -/
theorem MapV.entry {t e : TypeId} [DecidableEq κ] (E : KeyEnc P K ok val kl) (L : WideMaps.KeyLaw P K) (ht : P.underlying t = some (.map K e)) {z : Value} (hz : ∀ u : World, (zeroValue e).run P u = .ok z u) (h : MapV w P K ok kl b n m) (hn : n < maxLen) {k0 : κ} (hk : ok k0) :
    ∃ (st : Nat) (w1 : World), (Instr.mapEntry t (.map (some b)) (val k0)).run P w = .ok (.tuple #[(m k0).getD z, goInt st]) w1 ∧ w.grownBy w1 (some b) ∧ MapV w1 P K ok kl b (n + 1) (fun k => if k = k0 then some ((m k0).getD z) else m k) ∧
      ∀ v0, ∃ w2, (Instr.entryStore t (.map (some b)) (goInt st) v0).run P w1 = .ok () w2 ∧ MapV w2 P K ok kl b (n + 1) (fun k => if k = k0 then some v0 else m k) ∧ w.grownBy w2 (some b) := by
  have hv := h
  obtain ⟨D, ⟨es, clock, hb, F, hs, hD⟩, hm, h3, h4⟩ := hv
  have hkey := E.of k0 hk
  have hlt := (Array.getElem?_eq_some_iff.1 hb).1
  -- what a look gives
  have hlook : (Instr.lookup t (.map (some b)) (val k0) false).run P w = .ok ((m k0).getD z) w := by
    obtain ⟨v, ps, hrun, hv⟩ := World.ownsMap.lookup ⟨es, clock, hb, F, hs, hD⟩ E.keyed ht (hz w) (zd := .held z) (zp := []) rfl hkey
    have hv' : v = (m k0).getD z := by
      have e1 : (DataW.held v : DataW Value) = D.atKey (kl k0) (.held z) := congrArg Prod.fst (Option.some.inj hv)
      rcases hmk : m k0 with _ | u
      · have hh : has D (kl k0) = false := by rw [h3 k0 hk, hmk]; rfl
        rw [atKey_of_not_has hh] at e1
        injection e1
      · rw [h4 k0 u hk hmk] at e1
        injection e1
    rw [← hv']; exact hrun
  have store : ∀ (st : Nat) (w1 : World), (Instr.mapEntry t (.map (some b)) (val k0)).run P w = .ok (.tuple #[(m k0).getD z, goInt st]) w1 →
      ∀ v0, ∃ w2, (Instr.entryStore t (.map (some b)) (goInt st) v0).run P w1 = .ok () w2 ∧ MapV w2 P K ok kl b (n + 1) (fun k => if k = k0 then some v0 else m k) ∧ w.grownBy w2 (some b) := by
    intro st w1 hr v0
    obtain ⟨u, st', es1, clock1, hrun, _, hst⟩ := WideElems.entry_then_store L ht hz hb F hkey
    rw [hrun] at hr
    injection hr with hr1 hr2
    injection hr1 with hr1
    have hst' : st' = st := by
      have := congrArg (fun a : Array Value => a[1]?) hr1
      simp [goInt] at this
      omega
    subst hr2; subst hst'
    have hb1 : (setBlock w b (.map es1 clock1)).heap[b]? = some (.map es1 clock1) := by simp [setBlock, hlt]
    obtain ⟨es', clock', g1, g2⟩ := hst _ v0 hb1
    obtain ⟨w', hu, hM, hg⟩ := MapV.update E ht h hn hk v0
    rw [g2] at hu
    injection hu with _ hu
    have e2 : setBlock (setBlock w b (.map es1 clock1)) b (.map es' clock') = setBlock w b (.map es' clock') := by simp [setBlock]
    exact ⟨w', by rw [g1, e2, hu], hM, hg⟩
  rcases L.find w hkey es.toList F.keys with ⟨f1, f2⟩ | ⟨j, e0, f1, f2, f3⟩
  · have hz0 : (m k0).getD z = z := by
      have := hlook
      have hck := L.check w es.isEmpty hkey
      simp [Instr.lookup, run_underlying ht, MapKept.run_getObj_map hb, hck, f1, hz] at this
      exact this.symm
    have hr : (Instr.mapEntry t (.map (some b)) (val k0)).run P w = .ok (.tuple #[(m k0).getD z, goInt clock]) (setBlock w b (.map (es.push ⟨val k0, z, clock⟩) (clock + 1))) := by
      rw [hz0]
      simp [Instr.mapEntry, run_underlying ht, MapKept.run_getObj_map hb, L.check w false hkey, f1, hz, MapKept.run_setObj_map _ hb, Result.andThen, setBlock]
    obtain ⟨w', hu, hM, hg⟩ := MapV.update E ht h hn hk z
    have hu2 : (Instr.mapUpdate t (.map (some b)) (val k0) z).run P w = .ok () (setBlock w b (.map (es.push ⟨val k0, z, clock⟩) (clock + 1))) := by
      simp [Instr.mapUpdate, run_underlying ht, MapKept.run_getObj_map hb, L.check w false hkey, f1, MapKept.run_setObj_map _ hb, Result.andThen, setBlock]
    rw [hu2] at hu
    injection hu with _ hu
    exact ⟨clock, _, hr, by rw [hu]; exact hg, by rw [hu, hz0]; exact hM, store _ _ hr⟩
  · have hj : es[j]? = some e0 := by simpa using f2
    have hv0 : (m k0).getD z = e0.val := by
      have := hlook
      have hck := L.check w es.isEmpty hkey
      simp [Instr.lookup, run_underlying ht, MapKept.run_getObj_map hb, hck, f1] at this
      exact this.symm
    have hsame : es.modify j (fun e => { e with key := val k0 }) = es := by
      have hk0 : ({ e0 with key := val k0 } : MapEntry) = e0 := by rw [← f3]
      apply Array.ext_getElem?
      intro i
      rw [Array.getElem?_modify]
      by_cases q : j = i
      · subst q; rw [if_pos rfl, hj, Option.map_some, hk0]
      · rw [if_neg q]
    have hr : (Instr.mapEntry t (.map (some b)) (val k0)).run P w = .ok (.tuple #[(m k0).getD z, goInt e0.born]) w := by
      have hstay := L.stays w hkey
      rw [hv0]
      simp [Instr.mapEntry, run_underlying ht, MapKept.run_getObj_map hb, L.check w false hkey, f1, hj, f3, hstay, hsame, MapKept.run_setObj_map _ hb, Result.andThen]
      exact setBlock_same hb
    refine ⟨e0.born, w, hr, ⟨rfl, rfl, rfl, Nat.le_refl _, fun _ _ _ => rfl⟩, ?_, store _ _ hr⟩
    have hhas : m k0 = some e0.val := by
      obtain ⟨v, ps, hrun, _⟩ := World.ownsMap.look_ok ⟨es, clock, hb, F, hs, hD⟩ E.keyed ht (hz w) (zd := .held z) (zp := []) rfl hkey
      have hck := L.check w es.isEmpty hkey
      simp [Instr.lookup, run_underlying ht, MapKept.run_getObj_map hb, hck, f1] at hrun
      have hd : has D (kl k0) = true := hrun.2
      rw [h3 k0 hk] at hd
      rcases hmk : m k0 with _ | u
      · rw [hmk] at hd; cases hd
      · rw [hmk] at hv0
        exact congrArg some hv0
    have hm2 : (fun k => if k = k0 then some ((m k0).getD z) else m k) = m := by
      funext k
      by_cases q : k = k0
      · subst q; rw [if_pos rfl, hhas]; rfl
      · rw [if_neg q]
    rw [hm2]
    exact ⟨D, World.ownsMap.mono ⟨es, clock, hb, F, hs, hD⟩ (Nat.le_succ n), hm, h3, h4⟩
end
end Go.Proofs.YtfjmbcljohobeaaGreatDoor
namespace Go.Proofs.YtfjmbcljohobeaaGreatDoor
open Go.RowKit
set_option linter.unusedVariables false
set_option linter.unusedSimpArgs false

/-- How often a key stands in a list of claims, as the map's value. -/
def cntM (t : List ClaimD) (k : KeyD) : Option Value := if k ∈ t.map (·.1) then some (.int .i64 1) else none
theorem cntM_snoc {t : List ClaimD} {x : ClaimD} (h : x.1 ∉ t.map (·.1)) : (fun k => if k = x.1 then some (.int .i64 (0 + 1)) else cntM t k) = cntM (t ++ [x]) := by
  funext k
  unfold cntM
  by_cases e : k = x.1
  · subst e; rw [if_pos rfl, if_pos (by simp)]; rfl
  · rw [if_neg e]
    by_cases q : k ∈ t.map (·.1)
    · rw [if_pos q, if_pos (by rw [List.map_append, List.mem_append]; exact .inl q)]
    · rw [if_neg q, if_neg (by rw [List.map_append, List.mem_append]; rintro (r | r); exact q r; simp at r; exact e r)]
theorem right_snoc {t : List ClaimD} {x : ClaimD} (h : RightP t) (hn : x.1 ∉ t.map (·.1)) (hg : goodB x.2.2.1 x.2.2.2 = true) : RightP (t ++ [x]) := by
  refine ⟨fun c hc => ?_, ?_⟩
  · rcases List.mem_append.1 hc with hc | hc
    · exact h.1 c hc
    · rw [List.mem_singleton.1 hc]; exact hg
  · rw [List.map_append, List.nodup_append]
    refine ⟨h.2, by simp, fun a ha b hb e => ?_⟩
    rw [List.map_cons, List.map_nil, List.mem_singleton] at hb
    subst hb; subst e; exact hn ha
theorem right_dup {l : List ClaimD} {i : Nat} (hi : i < l.length) (h : l[i].1 ∈ (l.take i).map (·.1)) : rightB l = false := by
  rw [Bool.eq_false_iff, ne_eq, rightB_iff]
  intro hr
  have hn := hr.2
  rw [← List.take_append_drop i l, List.map_append, List.nodup_append] at hn
  refine hn.2.2 _ h _ ?_ rfl
  rw [List.drop_eq_getElem_cons hi, List.map_cons]
  exact List.mem_cons_self
theorem right_bad {l : List ClaimD} {i : Nat} (hi : i < l.length) (h : goodB l[i].2.2.1 l[i].2.2.2 = false) : rightB l = false := by
  rw [Bool.eq_false_iff, ne_eq, rightB_iff]
  intro hr
  have := hr.1 _ (List.getElem_mem hi)
  rw [h] at this; cases this
theorem oper_wp_val {P : Program} {o : Oper} {a : Act} {w w' : World} {v : Value} {K : Act → World → Prop} {Q : Exit → Act → World → Prop} (h : (execOp a.eval o).run P w = .ok (.value v) w') (hk : K (a.put o.dst v) w') : o.wp P a w K Q := by
  unfold Oper.wp
  rw [h]
  exact hk
theorem oper_wp_skip {P : Program} {o : Oper} {a : Act} {w w' : World} {K : Act → World → Prop} {Q : Exit → Act → World → Prop} (h : (execOp a.eval o).run P w = .ok .skip w') (hk : K (a.put o.dst undef) w') : o.wp P a w K Q := by
  unfold Oper.wp
  rw [h]
  exact hk
theorem wpOp_val {P : Program} {ops : Array Oper} {Q : Exit → Act → World → Prop} {i : Nat} {K : Act → World → Prop} {a : Act} {w w' : World} {v : Value} (o : Oper) (hi : ops[i]? = some o) (hw : Region.wanted o (yielded ops a.tmps) = true)
    (h : (execOp a.eval o).run P w = .ok (.value v) w') (hk : K (a.put o.dst v) w') : wpOp P ops Q i K a w := by
  unfold wpOp
  simp only [hi, if_pos hw]
  exact .inl (oper_wp_val h hk)
theorem wpOp_skip {P : Program} {ops : Array Oper} {Q : Exit → Act → World → Prop} {i : Nat} {K : Act → World → Prop} {a : Act} {w w' : World} (o : Oper) (hi : ops[i]? = some o) (hw : Region.wanted o (yielded ops a.tmps) = true)
    (h : (execOp a.eval o).run P w = .ok .skip w') (hk : K (a.put o.dst undef) w') : wpOp P ops Q i K a w := by
  unfold wpOp
  simp only [hi, if_pos hw]
  exact .inl (oper_wp_skip h hk)

theorem rangeAt_drew {w : World} {b o : Nat} {cs : List Value} (h : w.rangeAt b o cs) : w.drew.rangeAt b o cs := h
theorem rangeAt_grown {w w' : World} {row : Option Nat} {b o : Nat} {cs : List Value} (h : w.rangeAt b o cs) (hg : w.grownBy w' row) (hne : row ≠ some b) : w'.rangeAt b o cs :=
  fun j u hj => hg.cell (h j u hj) (fun e => hne e.symm)
theorem sizeClaim' : (Tryz.prog.info? 29).map (·.size) = some 70 := by kernel_rfl
theorem sizeKey' : (Tryz.prog.info? 26).map (·.size) = some 34 := by kernel_rfl
theorem zeroInt_run (w : World) : (zeroValue 3).run Tryz.prog w = .ok (.int .i64 0) w := by
  have h : (Tryz.prog.info? 3).map (·.zero) = some (some (.int .i64 0)) := by kernel_rfl
  cases hq : Tryz.prog.info? 3 with
  | none => rw [hq] at h; cases h
  | some i =>
    rw [hq] at h
    have h2 : i.zero = some (.int .i64 0) := Option.some.inj h
    simp [zeroValue, typeInfo, hq, h2]
set_option maxHeartbeats 2000000 in
set_option maxRecDepth 100000 in
theorem right_any (l : List ClaimD) (A : Option Addr) (c : Nat) (w : World) (hl : l.length ≤ 1099511627776) (hok : ∀ x ∈ l, ClaimOk x) (hsl : Sl w w.heap.size A l.length 70 (rowsV claimV l)) (hg : Glob w) :
    Calls Tryz.prog 12 #[.slice A l.length c] w fun e w' => Below w.heap.size w w' ∧ e = .returned (.bool (rightB l)) := by
  have HSL := Lib.hid hsl; clear hsl
  have HOK := Lib.hid hok; clear hok
  have hmm := @run_makeMap Tryz.prog
  go_enter Tryz.func12, Tryz.ntmps12
  go_upto_region 2 with fail
  have hm0 := MapV.made w Tryz.prog 26 KeyOk keyL
  have hb0 : Below w.heap.size w (w.alloc (.map #[] 0)) := (Below.refl _ _).alloc (Nat.le_refl _) _
  clear hmm
  generalize w.alloc (.map #[] 0) = W at *
  go_wp2_with fail
  go_loopw [9] (fun t wr => ∃ i : Nat, i ≤ l.length ∧ t = .int .i64 i ∧ Below w.heap.size w wr ∧ Hid (RightP (l.take i)) ∧ ∃ n0, n0 ≤ i ∧ Hid (MapV wr Tryz.prog 26 KeyOk keyL w.heap.size n0 (cntM (l.take i)))) (fun t _ => l.length - (intOf t).toNat)
  case atStart => exact ⟨0, by omega, rfl, hb0, Lib.hid ⟨fun c hc => absurd hc (by simp), by simp⟩, 0, Nat.le_refl _, Lib.hid hm0⟩
  case round =>
    obtain ⟨i, hi, rfl, hbr, hR, n0, hn0, hM⟩ := hrel
    by_cases hlt : i < l.length
    · obtain ⟨b, off, rfl, hbl, hcl⟩ := (HSL.out.keep hbr).2 (by omega)
      have i0 : (0 : Int) ≤ (i : Int) := by omega
      have i1 : (i : Int) < (l.length : Int) := by omega
      have hlens : ∀ x ∈ l, (claimV x).length = 70 := fun x hx => claimV_length (HOK.out x hx)
      have hrow := Sl.row hlens hcl hlt
      have hcx := HOK.out _ (List.getElem_mem hlt)
      have htk : l.take (i + 1) = l.take i ++ [l[i]] := List.take_succ_eq_append_getElem hlt
      have HDUP := Lib.hid fun h => right_dup hlt h
      have HBAD := Lib.hid fun h => right_bad hlt h
      have HCL := Lib.hid hcl; clear hcl
      have HROW := Lib.hid hrow; clear hrow
      have HTK := Lib.hid htk; clear htk
      have HX := Lib.hid hcx; clear hcx
      clear hlens
      generalize l[i] = x at *
      go_upto_region 5 with (first
        | (refine wp_loadN rfl 29 _ rfl b _ rfl (claimV x) _ HROW.out Tryz.underlying29 rfl (by rw [claimV_length HX.out]; exact sizeClaim') ?_)
        | (refine wp_storeN (B := wr.heap.size) (w0 := wr) rfl 29 _ _ rfl wr.heap.size _ rfl rfl 29 _ (heap_alloc_new _ _) (by rw [List.size_toArray, claimV_length HX.out]; exact sizeClaim') (by rw [show (claimV x).toArray.size = 70 by rw [List.size_toArray, claimV_length HX.out]]; rfl) (by simpa using claimV_one x) ((Below.refl _ _).alloc (Nat.le_refl _) _) (Nat.le_refl _) ?_; intro W2 hbW2 hW2 _))
      have hM2 := hM.out.below hbW2
      have hall : ∀ j u, (claimV x)[j]? = some u → W2.cell? ⟨wr.heap.size, 0 + j, none⟩ = some u := fun j u hj => by rw [Nat.zero_add]; exact (cells_box hW2 j).trans hj
      have hkr : W2.rangeAt wr.heap.size 0 (keyV x.1) := fun j u hj => hall j u (by have := claim_key HX.out j u hj; rwa [Nat.zero_add] at this)
      have hkk : KeyOk x.1 := HX.out.1
      have hmax : n0 < maxLen := by unfold maxLen; omega
      obtain ⟨old, hold, hdup, HOLD⟩ : ∃ old : Int, (old = 0 ∨ old = 1) ∧ Hid (old = 0 ↔ x.1 ∉ (l.take i).map (·.1)) ∧ Hid ((cntM (l.take i) x.1).getD (.int .i64 0) = .int .i64 old) := by
        by_cases h : x.1 ∈ (l.take i).map (·.1)
        · exact ⟨1, .inr rfl, Lib.hid ⟨fun e => absurd e (by decide), fun n => absurd h n⟩, Lib.hid (by unfold cntM; rw [if_pos h]; rfl)⟩
        · exact ⟨0, .inl rfl, Lib.hid ⟨fun _ => h, fun _ => rfl⟩, Lib.hid (by unfold cntM; rw [if_neg h]; rfl)⟩
      have hne : w.heap.size ≠ wr.heap.size := by have := hM.out.lt; omega
      obtain ⟨st, W3, hent, hg3, hM3, hstore⟩ := MapV.entry keyEnc eqKey.law Tryz.underlying54 zeroInt_run hM2.drew hmax hkk
      refine wp_region_held (S := fun w' => w'.rangeAt wr.heap.size 0 (keyV x.1)) (by kernel_rfl) ?_
      refine wpAnyH_take (i := 0) (v := .map (some w.heap.size)) rfl (by kernel_rfl) (by kernel_rfl) (by kernel_rfl) (fun _ _ _ h => h) (Or.inl ⟨by rfl, fun w' _ => by rfl⟩) hkr ?_
      simp only [Act.put, List.getElem_toArray, List.getElem_cons_succ, List.getElem_cons_zero, List.setIfInBounds_toArray, List.set_cons_zero, List.set_cons_succ, List.size_toArray, List.length_cons, List.length_nil, Nat.reduceAdd, Array.replicate_succ, Array.replicate_zero, List.push_toArray, List.nil_append, List.cons_append]
      refine wpAnyH_take (i := 1) (v := .pointer (some ⟨wr.heap.size, 0, none⟩)) rfl (by kernel_rfl) (by kernel_rfl) (by kernel_rfl) (fun _ _ _ h => h) (Or.inl ⟨by rfl, fun w' _ => by go_simp⟩) hkr ?_
      simp only [Act.put, List.getElem_toArray, List.getElem_cons_succ, List.getElem_cons_zero, List.setIfInBounds_toArray, List.set_cons_zero, List.set_cons_succ, List.size_toArray, List.length_cons, List.length_nil, Nat.reduceAdd, Array.replicate_succ, Array.replicate_zero, List.push_toArray, List.nil_append, List.cons_append]
      refine wpAnyH_take (i := 2) (v := keyA x.1) rfl (by kernel_rfl) (by kernel_rfl) (by kernel_rfl) (fun _ _ _ h => h) (Or.inl ⟨by rfl, fun w' hw' => ex_load 26 _ rfl (p := ⟨wr.heap.size, 0, none⟩) rfl (run_loadVar_mid w' _ _ _ (keyV x.1) _ hw' Tryz.underlying26 rfl (by rw [keyV_length hkk]; exact sizeKey'))⟩) hkr ?_
      simp only [Act.put, List.getElem_toArray, List.getElem_cons_succ, List.getElem_cons_zero, List.setIfInBounds_toArray, List.set_cons_zero, List.set_cons_succ, List.size_toArray, List.length_cons, List.length_nil, Nat.reduceAdd, Array.replicate_succ, Array.replicate_zero, List.push_toArray, List.nil_append, List.cons_append]
      refine wpAnyH_all (rs := [3, 5]) (by kernel_rfl) (by simp) ?_
      intro q hq
      simp only [List.mem_cons, List.not_mem_nil, or_false] at hq
      have hS3 : W3.rangeAt wr.heap.size 0 (keyV x.1) := rangeAt_grown (rangeAt_drew hkr) hg3 (fun e => hne (Option.some.inj e))
      rcases hq with rfl | rfl
      case' inr =>
        refine wpOp_val _ rfl (by kernel_rfl) (ex_mapEntry 54 _ _ rfl (vm := .map (some w.heap.size)) (vk := keyA x.1) rfl rfl hent) ?_
        rw [HOLD.out]
        refine ⟨hS3, ?_⟩
        simp only [Act.put, List.getElem_toArray, List.getElem_cons_succ, List.getElem_cons_zero, List.setIfInBounds_toArray, List.set_cons_zero, List.set_cons_succ, List.size_toArray, List.length_cons, List.length_nil, Nat.reduceAdd, Array.replicate_succ, Array.replicate_zero, List.push_toArray, List.nil_append, List.cons_append]
        refine wpAnyH_take (i := 6) (v := goInt st) rfl (by kernel_rfl) (by kernel_rfl) (by kernel_rfl) (fun _ _ _ h => h) (Or.inl ⟨by rfl, fun w' _ => by rfl⟩) hS3 ?_
        simp only [Act.put, List.getElem_toArray, List.getElem_cons_succ, List.getElem_cons_zero, List.setIfInBounds_toArray, List.set_cons_zero, List.set_cons_succ, List.size_toArray, List.length_cons, List.length_nil, Nat.reduceAdd, Array.replicate_succ, Array.replicate_zero, List.push_toArray, List.nil_append, List.cons_append]
        refine wpAnyH_all (rs := [3]) (by kernel_rfl) (by simp) ?_
        intro q hq
        obtain rfl : q = 3 := by simpa using hq
        refine wpOp_val _ rfl (by kernel_rfl) (ex_lookup 54 _ _ false rfl (vm := .map (some w.heap.size)) (vk := keyA x.1) rfl rfl (MapV.look keyEnc Tryz.underlying54 zeroInt_run hM3 hkk)) ?_
        rw [if_pos rfl, Option.getD_some, HOLD.out]
        refine ⟨hS3, ?_⟩
        simp only [Act.put, List.getElem_toArray, List.getElem_cons_succ, List.getElem_cons_zero, List.setIfInBounds_toArray, List.set_cons_zero, List.set_cons_succ, List.size_toArray, List.length_cons, List.length_nil, Nat.reduceAdd, Array.replicate_succ, Array.replicate_zero, List.push_toArray, List.nil_append, List.cons_append]
        refine wpAnyH_take (i := 4) (v := .int .i64 (old + 1)) rfl (by kernel_rfl) (by kernel_rfl) (by kernel_rfl) (fun _ _ _ h => h) (Or.inl ⟨by rfl, fun w' _ => by rcases hold with rfl | rfl <;> rfl⟩) hS3 ?_
        simp only [Act.put, List.getElem_toArray, List.getElem_cons_succ, List.getElem_cons_zero, List.setIfInBounds_toArray, List.set_cons_zero, List.set_cons_succ, List.size_toArray, List.length_cons, List.length_nil, Nat.reduceAdd, Array.replicate_succ, Array.replicate_zero, List.push_toArray, List.nil_append, List.cons_append]
        refine wpAnyH_all (rs := [7]) (by kernel_rfl) (by simp) ?_
        intro q hq
        obtain rfl : q = 7 := by simpa using hq
        obtain ⟨W4, hst, hM4, hg4⟩ := hstore (.int .i64 (old + 1))
        refine wpOp_skip _ rfl (by kernel_rfl) (ex_entryStore 54 _ _ _ rfl (vm := .map (some w.heap.size)) (vs := goInt st) (v := .int .i64 (old + 1)) rfl rfl rfl hst) ?_
        have hS4 : W4.rangeAt wr.heap.size 0 (keyV x.1) := rangeAt_grown (rangeAt_drew hkr) hg4 (fun e => hne (Option.some.inj e))
        refine ⟨hS4, wpAnyH_done (by kernel_rfl) ?_ _⟩
        simp only [Act.put, List.getElem_toArray, List.getElem_cons_succ, List.getElem_cons_zero, List.setIfInBounds_toArray, List.set_cons_zero, List.set_cons_succ, List.size_toArray, List.length_cons, List.length_nil, Nat.reduceAdd, Array.replicate_succ, Array.replicate_zero, List.push_toArray, List.nil_append, List.cons_append]
      case' inl =>
        refine wpOp_val _ rfl (by kernel_rfl) (ex_lookup 54 _ _ false rfl (vm := .map (some w.heap.size)) (vk := keyA x.1) rfl rfl (MapV.look keyEnc Tryz.underlying54 zeroInt_run hM2.drew hkk)) ?_
        rw [HOLD.out]
        refine ⟨(rangeAt_drew hkr), ?_⟩
        simp only [Act.put, List.getElem_toArray, List.getElem_cons_succ, List.getElem_cons_zero, List.setIfInBounds_toArray, List.set_cons_zero, List.set_cons_succ, List.size_toArray, List.length_cons, List.length_nil, Nat.reduceAdd, Array.replicate_succ, Array.replicate_zero, List.push_toArray, List.nil_append, List.cons_append]
        refine wpAnyH_take (i := 4) (v := .int .i64 (old + 1)) rfl (by kernel_rfl) (by kernel_rfl) (by kernel_rfl) (fun _ _ _ h => h) (Or.inl ⟨by rfl, fun w' _ => by rcases hold with rfl | rfl <;> rfl⟩) (rangeAt_drew hkr) ?_
        simp only [Act.put, List.getElem_toArray, List.getElem_cons_succ, List.getElem_cons_zero, List.setIfInBounds_toArray, List.set_cons_zero, List.set_cons_succ, List.size_toArray, List.length_cons, List.length_nil, Nat.reduceAdd, Array.replicate_succ, Array.replicate_zero, List.push_toArray, List.nil_append, List.cons_append]
        refine wpAnyH_all (rs := [5]) (by kernel_rfl) (by simp) ?_
        intro q hq
        obtain rfl : q = 5 := by simpa using hq
        refine wpOp_val _ rfl (by kernel_rfl) (ex_mapEntry 54 _ _ rfl (vm := .map (some w.heap.size)) (vk := keyA x.1) rfl rfl hent) ?_
        rw [HOLD.out]
        refine ⟨hS3, ?_⟩
        simp only [Act.put, List.getElem_toArray, List.getElem_cons_succ, List.getElem_cons_zero, List.setIfInBounds_toArray, List.set_cons_zero, List.set_cons_succ, List.size_toArray, List.length_cons, List.length_nil, Nat.reduceAdd, Array.replicate_succ, Array.replicate_zero, List.push_toArray, List.nil_append, List.cons_append]
        refine wpAnyH_take (i := 6) (v := goInt st) rfl (by kernel_rfl) (by kernel_rfl) (by kernel_rfl) (fun _ _ _ h => h) (Or.inl ⟨by rfl, fun w' _ => by rfl⟩) hS3 ?_
        simp only [Act.put, List.getElem_toArray, List.getElem_cons_succ, List.getElem_cons_zero, List.setIfInBounds_toArray, List.set_cons_zero, List.set_cons_succ, List.size_toArray, List.length_cons, List.length_nil, Nat.reduceAdd, Array.replicate_succ, Array.replicate_zero, List.push_toArray, List.nil_append, List.cons_append]
        refine wpAnyH_all (rs := [7]) (by kernel_rfl) (by simp) ?_
        intro q hq
        obtain rfl : q = 7 := by simpa using hq
        obtain ⟨W4, hst, hM4, hg4⟩ := hstore (.int .i64 (old + 1))
        refine wpOp_skip _ rfl (by kernel_rfl) (ex_entryStore 54 _ _ _ rfl (vm := .map (some w.heap.size)) (vs := goInt st) (v := .int .i64 (old + 1)) rfl rfl rfl hst) ?_
        have hS4 : W4.rangeAt wr.heap.size 0 (keyV x.1) := rangeAt_grown (rangeAt_drew hkr) hg4 (fun e => hne (Option.some.inj e))
        refine ⟨hS4, wpAnyH_done (by kernel_rfl) ?_ _⟩
        simp only [Act.put, List.getElem_toArray, List.getElem_cons_succ, List.getElem_cons_zero, List.setIfInBounds_toArray, List.set_cons_zero, List.set_cons_succ, List.size_toArray, List.length_cons, List.length_nil, Nat.reduceAdd, Array.replicate_succ, Array.replicate_zero, List.push_toArray, List.nil_append, List.cons_append]
      all_goals
        have HM4 := Lib.hid hM4
        have HK4 : Hid (W4.rangeAt wr.heap.size 0 (keyV x.1)) := hS4
        have HC4 : Hid (W4.rangeAt wr.heap.size 0 (claimV x)) := rangeAt_grown (rangeAt_drew hall) hg4 (fun e => hne (Option.some.inj e))
        have HB4 : Hid (Below w.heap.size w W4) := (hbr.trans (hbW2.mono hbr.size)).drew.grown hg4 (Nat.le_trans hbr.size hbW2.size) (fun k e => by cases e; exact Nat.le_refl _)
        have HG4 : Hid (Glob W4) := hg.next HB4.out
        clear hM4 hS4 hg4 hst hstore hent hM3 hg3 hS3 hkr hall hM2 hbW2 hW2 hM
        rcases hold with rfl | rfl
        · have hnd := hdup.out.1 rfl
          have HND := Lib.hid hnd
          clear hnd hdup HDUP HOLD
          cases hgd : goodB x.2.2.1 x.2.2.2 with
          | true =>
            have hcall := good_any x W4 HX.out HG4.out
            rw [hgd] at hcall
            have HGD := Lib.hid hgd; clear hgd HBAD
            go_wp2_with (first
              | (refine wp_val (by rfl) (ex_load 26 _ rfl (p := ⟨wr.heap.size, 0, none⟩) rfl (run_loadVar_mid W4 _ _ _ (keyV x.1) _ HK4.out Tryz.underlying26 rfl (by rw [keyV_length hkk]; exact sizeKey'))) ?_)
              | (refine wp_val (by rfl) (ex_load 29 _ rfl (p := ⟨wr.heap.size, 0, none⟩) rfl (run_loadVar_mid W4 _ _ _ (claimV x) _ HC4.out Tryz.underlying29 rfl (by rw [claimV_length HX.out]; exact sizeClaim'))) ?_)
              | (refine wp_mapGet1 rfl _ _ 54 rfl 3 keyEnc Tryz.underlying54 (.int .i64 0) (zeroInt_run _) rfl HM4.out x.1 hkk rfl ?_; simp only [if_true, Option.getD_some])
              | (go_at_call 18; refine hcall.mono ?_; rintro e w5 ⟨hb5, rfl⟩
                 have HM5 := Lib.hid (HM4.out.below hb5)
                 have HB5 := Lib.hid (HB4.out.trans (hb5.mono HB4.out.size))
                 clear hb5))
            go_roundw
            case rel => exact ⟨i + 1, by omega, by go_num, HB5.out, Lib.hid (by rw [HTK.out]; exact right_snoc hR.out HND.out HGD.out), n0 + 1, by omega, Lib.hid (by rw [HTK.out, ← cntM_snoc HND.out]; exact HM5.out)⟩
            case measure => simp [intOf]; omega
          | false =>
            have hcall := good_any x W4 HX.out HG4.out
            rw [hgd] at hcall
            have hrb := HBAD.out hgd
            have HRB := Lib.hid hrb; clear hgd HBAD hrb
            go_wp2_with (first
              | (refine wp_val (by rfl) (ex_load 26 _ rfl (p := ⟨wr.heap.size, 0, none⟩) rfl (run_loadVar_mid W4 _ _ _ (keyV x.1) _ HK4.out Tryz.underlying26 rfl (by rw [keyV_length hkk]; exact sizeKey'))) ?_)
              | (refine wp_val (by rfl) (ex_load 29 _ rfl (p := ⟨wr.heap.size, 0, none⟩) rfl (run_loadVar_mid W4 _ _ _ (claimV x) _ HC4.out Tryz.underlying29 rfl (by rw [claimV_length HX.out]; exact sizeClaim'))) ?_)
              | (refine wp_mapGet1 rfl _ _ 54 rfl 3 keyEnc Tryz.underlying54 (.int .i64 0) (zeroInt_run _) rfl HM4.out x.1 hkk rfl ?_; simp only [if_true, Option.getD_some])
              | (go_at_call 18; refine hcall.mono ?_; rintro e w5 ⟨hb5, rfl⟩
                 have HB5 := Lib.hid (HB4.out.trans (hb5.mono HB4.out.size))
                 clear hb5))
            go_ret
            exact ⟨HB5.out, by rw [HRB.out]; rfl⟩
        · have hdd := HDUP.out (Classical.byContradiction fun n => absurd (hdup.out.2 n) (by decide))
          have HRB := Lib.hid hdd
          clear hdd hdup HDUP HOLD HBAD
          go_wp2_with (first
            | (refine wp_val (by rfl) (ex_load 26 _ rfl (p := ⟨wr.heap.size, 0, none⟩) rfl (run_loadVar_mid W4 _ _ _ (keyV x.1) _ HK4.out Tryz.underlying26 rfl (by rw [keyV_length hkk]; exact sizeKey'))) ?_)
            | (refine wp_mapGet1 rfl _ _ 54 rfl 3 keyEnc Tryz.underlying54 (.int .i64 0) (zeroInt_run _) rfl HM4.out x.1 hkk rfl ?_; simp only [if_true, Option.getD_some]))
          go_ret
          exact ⟨HB4.out, by rw [HRB.out]; rfl⟩
    · go_wp2_with fail
      go_ret
      have e : l.take i = l := List.take_of_length_le (by omega)
      have hR2 := hR.out
      rw [e] at hR2
      exact ⟨hbr, by rw [rightB_iff.2 hR2]; rfl⟩
end Go.Proofs.YtfjmbcljohobeaaGreatDoor
namespace Go.Proofs.YtfjmbcljohobeaaGreatDoor

theorem freshGo_form (l : List UInt8) (T : List (List UInt8)) : ∀ (f n : Nat) (t : List UInt8), freshGo l T f n t = t ∨ ∃ m, n ≤ m ∧ m < n + f ∧ freshGo l T f n t = candS l m := by
  intro f
  induction f with
  | zero => intro n t; exact .inl rfl
  | succ f ih =>
    intro n t
    unfold freshGo
    split
    · rcases ih (n + 1) (candS l n) with h | ⟨m, h1, h2, h3⟩
      · exact .inr ⟨n, Nat.le_refl _, by omega, h⟩
      · exact .inr ⟨m, by omega, by omega, h3⟩
    · exact .inl rfl
theorem candS_length (l : List UInt8) (n : Nat) : (candS l n).length = l.length + 1 + (Lib.decDigits n).length := by
  have h2 := congrArg List.length (first_rest l)
  rw [List.length_append] at h2
  simp only [candS, List.length_append, List.length_cons, List.length_nil]
  omega
theorem freshS_length (l : List UInt8) (T : List (List UInt8)) (h : T.length ≤ 97) : l.length ≤ (freshS l T).length ∧ (freshS l T).length ≤ l.length + 3 := by
  unfold freshS
  rcases freshGo_form l T (T.length + 2) 1 l with e | ⟨m, h1, h2, e⟩
  · rw [e]; omega
  · rw [e, candS_length]
    have := decDigits_len (k := m) (by omega)
    omega
theorem freshS_self (l : List UInt8) (T : List (List UInt8)) : (freshS l T = l) ↔ clashesB l T = false := by
  constructor
  · intro h
    have := fresh_clear (l := l) (taken := T)
    rw [h] at this
    exact this
  · intro h
    unfold freshS freshGo
    rw [if_neg (by rw [h]; simp)]
end Go.Proofs.YtfjmbcljohobeaaGreatDoor
namespace Go.Proofs.YtfjmbcljohobeaaGreatDoor

def pathStep (f : KeyD → Option ClaimD) (r : List (KeyD × List UInt8)) (d : KeyD) (T : List (List UInt8)) : List (KeyD × List UInt8) :=
  match f d with
  | some c => if c.2.2.1 = 5 then r else r ++ [(d, freshS (L c.2.2.2) (T ++ r.map (·.2)))]
  | none => r
theorem pathsGo_snoc (f : KeyD → Option ClaimD) (d : KeyD) : ∀ (ds : List KeyD) (T : List (List UInt8)), pathsGo f (ds ++ [d]) T = pathStep f (pathsGo f ds T) d T
  | [], T => by
    unfold pathStep
    simp only [List.nil_append, pathsGo, List.map_nil, List.append_nil]
    try (cases f d <;> rfl)
  | e :: r, T => by
    rw [List.cons_append]
    unfold pathsGo
    cases h : f e with
    | none => exact pathsGo_snoc f d r T
    | some c =>
      by_cases hk : c.2.2.1 = 5
      · simp only [hk, if_true]
        exact pathsGo_snoc f d r T
      · simp only [hk, if_false]
        rw [pathsGo_snoc f d r _]
        unfold pathStep
        cases f d with
        | none => rfl
        | some c' =>
          simp only
          split
          · rfl
          · simp
theorem pathsGo_length (f : KeyD → Option ClaimD) : ∀ (ds : List KeyD) (T : List (List UInt8)), (pathsGo f ds T).length ≤ ds.length
  | [], _ => by simp [pathsGo]
  | e :: r, T => by
    unfold pathsGo
    cases h : f e with
    | none => have := pathsGo_length f r T; simp; omega
    | some c =>
      simp only
      split
      · have := pathsGo_length f r T; simp; omega
      · have := pathsGo_length f r (T ++ [freshS (L c.2.2.2) T]); simp; omega
theorem insK_length (k : KeyD) : ∀ l : List KeyD, (insK k l).length ≤ l.length + 1
  | [] => by simp [insK]
  | y :: l => by
    unfold insK
    split
    · simp
    · split
      · simp
      · have := insK_length k l; simp; omega
theorem sortK_length : ∀ l : List KeyD, (sortK l).length ≤ l.length
  | [] => by simp [sortK]
  | y :: l => by
    have h1 := insK_length y (sortK l)
    have h2 := sortK_length l
    show (insK y (sortK l)).length ≤ _
    simp; omega
theorem docsS_length (l : List ClaimD) : (docsS l).length ≤ l.length := by
  have := sortK_length (l.map (·.2.1))
  unfold docsS; simpa using this
end Go.Proofs.YtfjmbcljohobeaaGreatDoor
