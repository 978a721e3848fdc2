/-
  Lists of data as a slice's cells, each element some cells wide; such a slice read from what came in. Over any program; conditions as each says.
-/
import Derived.Test.YtdgbjhfkmembdaaGreatDoorFiles
import Derived.Test.YtdgbjhfkmembdaaGreatDoorIdsSpec
namespace Go.Proofs.YtdgbjhfkmembdaaGreatDoor
open Go.RowKit Go.ChangeShapes Go.WideShapes Go.ChangeAt
set_option linter.unusedVariables false

section
variable {α : Type} {enc : α → List Value} {sz : Nat}
def rowsV (enc : α → List Value) (l : List α) : List Value := l.flatMap enc
theorem rowsV_length : ∀ {l : List α}, (∀ x ∈ l, (enc x).length = sz) → (rowsV enc l).length = l.length * sz
  | [], _ => by simp [rowsV]
  | a :: l, h => by
    have h1 := h a (by simp)
    have h2 := rowsV_length (l := l) fun x hx => h x (by simp [hx])
    simp only [rowsV, List.flatMap_cons, List.length_append, List.length_cons] at h2 ⊢
    rw [h1, h2, Nat.add_mul]; omega
theorem rowsV_app (a b : List α) : rowsV enc (a ++ b) = rowsV enc a ++ rowsV enc b := by simp [rowsV]
theorem rowsV_one (h1 : ∀ x, ∀ u ∈ enc x, u.oneCell' = true) (l : List α) : ∀ u ∈ rowsV enc l, u.oneCell' = true := by
  intro u hu
  obtain ⟨a, _, ha⟩ := List.mem_flatMap.1 hu
  exact h1 a u ha
theorem rowsV_get : ∀ {l : List α}, (∀ x ∈ l, (enc x).length = sz) → ∀ (i : Nat) (h : i < l.length) (j : Nat) (u : Value), (enc l[i])[j]? = some u → (rowsV enc l)[i * sz + j]? = some u
  | [], _, _, h, _, _, _ => by cases h
  | a :: l, ho, 0, _, j, u, hj => by
    have h1 : (enc a).length = sz := ho a (by simp)
    have hlt := (List.getElem?_eq_some_iff.1 hj).1
    simp only [rowsV, List.flatMap_cons, Nat.zero_mul, Nat.zero_add]
    rw [List.getElem?_append_left (by simpa using hlt)]
    exact hj
  | a :: l, ho, i + 1, h, j, u, hj => by
    have h1 : (enc a).length = sz := ho a (by simp)
    have := rowsV_get (l := l) (fun x hx => ho x (by simp [hx])) i (by simpa using h) j u (by simpa using hj)
    simp only [rowsV, List.flatMap_cons] at this ⊢
    rw [List.getElem?_append_right (by rw [h1, Nat.add_mul]; omega), h1, show (i + 1) * sz + j - sz = i * sz + j by rw [Nat.add_mul]; omega]
    exact this
theorem Sl.row {w : World} {b off : Nat} {l : List α} (ho : ∀ x ∈ l, (enc x).length = sz) (h : ∀ j u, (rowsV enc l)[j]? = some u → w.cell? ⟨b, off + j, none⟩ = some u) {i : Nat} (hi : i < l.length) : ∀ j u, (enc l[i])[j]? = some u → w.cell? ⟨b, off + i * sz + j, none⟩ = some u := by
  intro j u hj
  rw [Nat.add_assoc]
  exact h _ _ (rowsV_get ho i hi j u hj)
end

/-- Cells read together stand one by one. -/
theorem open_rows {H : Type} {encH : TypeId × Value → H} {P : Program} {W : World} {t e : TypeId} {α : Type} [Inhabited α] {enc : α → List Value} {ok : α → Prop} {sz : Nat} (ht : P.underlying t = some (.slice e)) (hce : P.cellsOf e = sz) (hsz : 0 < sz) (hlen : ∀ x, ok x → (enc x).length = sz)
    (dec : ∀ n cs x, DataW.trod encH P W 0 (fun _ => true) true n e cs = some x → ∃ c : α, ok c ∧ cs = enc c)
    {a : Option Addr} {len cap : Nat} {d : DataW H} {ps : List MemPlace} (h : DataW.Trod encH P W 0 (fun _ => true) true t (.slice a len cap) d ps) :
    ∃ l : List α, l.length = len ∧ len ≤ maxLen ∧ len ≤ cap ∧ (∀ c ∈ l, ok c) ∧ Sl W W.heap.size a l.length sz (rowsV enc l) := by
  obtain ⟨fuel, hf⟩ := h
  rcases Go.Deep.open_slice ht hf with ⟨hcs, _⟩ | ⟨x, ln, c, m, n, D, Pl, hcs, _, hl, hm, hmm, hdx, hx⟩
  · simp [Value.cells] at hcs
    obtain ⟨rfl, rfl, rfl⟩ := hcs
    exact ⟨[], rfl, by unfold maxLen; omega, by omega, fun t ht => absurd ht (by simp), Sl.nil⟩
  · simp [Value.cells] at hcs
    obtain ⟨rfl, rfl, rfl⟩ := hcs
    have hmc : m = cap := by simpa using hmm
    subst hmc
    have each : ∀ i, i < len → ∃ q : α, ok q ∧ W.cells? 0 (x.add (i * sz)) sz = some (enc q) := by
      intro i hi
      obtain ⟨cs', h1, h2⟩ := hx i (by omega)
      obtain ⟨q, hq, rfl⟩ := dec _ _ _ h2
      rw [hce] at h1
      exact ⟨q, hq, h1⟩
    obtain ⟨F, hF⟩ := Go.Deep.choose_lt each
    have hok : ∀ c ∈ (List.range len).map F, ok c := by
      intro c hc
      obtain ⟨i, hi, rfl⟩ := List.mem_map.1 hc
      exact (hF i (by simpa using hi)).1
    have hlens : ∀ c ∈ (List.range len).map F, (enc c).length = sz := fun c hc => hlen c (hok c hc)
    refine ⟨(List.range len).map F, by simp, by omega, hl, hok, rowsV_length hlens, fun h0 => ?_⟩
    have hln : ((List.range len).map F).length = len := by simp
    rw [hln] at h0
    obtain ⟨b, off, spot⟩ := x
    have hcell : ∀ i, i < len → ∀ k, k < sz → W.cell? ((⟨b, off, spot⟩ : Addr).add (i * sz + k)) = (enc (F i))[k]? := by
      intro i hi k hk
      obtain ⟨_, hlen', hc⟩ := World.cells?_some (hF i hi).2
      have := hc k hk
      rw [Go.Deep.add_add] at this
      exact this
    have hc0 := hcell 0 h0 0 hsz
    have hv0 : ∃ v, (enc (F 0))[0]? = some v := ⟨_, List.getElem?_eq_getElem (by rw [hlen _ (hF 0 h0).1]; exact hsz)⟩
    obtain ⟨v0, hv0⟩ := hv0
    rw [hv0] at hc0
    obtain rfl : spot = none := by simpa [Addr.add] using World.cell?_spot hc0
    have hblk : b < W.heap.size := by
      have hc1 : W.cell? ⟨b, off, none⟩ = some v0 := by simpa [Addr.add] using hc0
      rcases Nat.lt_or_ge b W.heap.size with q | q
      · exact q
      · unfold World.cell? at hc1
        rw [Array.getElem?_eq_none q] at hc1
        cases hc1
    refine ⟨b, off, rfl, hblk, fun j u hu => ?_⟩
    have hj := (List.getElem?_eq_some_iff.1 hu).1
    rw [rowsV_length hlens, hln] at hj
    have hi : j / sz < len := (Nat.div_lt_iff_lt_mul hsz).2 hj
    have hk : j % sz < sz := Nat.mod_lt _ hsz
    have hjs : j / sz * sz + j % sz = j := by rw [Nat.mul_comm]; exact Nat.div_add_mod j sz
    have hc := hcell (j / sz) hi (j % sz) hk
    rw [hjs, addr_add] at hc
    obtain ⟨v, hv⟩ : ∃ v, (enc (F (j / sz)))[j % sz]? = some v := ⟨_, List.getElem?_eq_getElem (by rw [hlen _ (hF _ hi).1]; exact hk)⟩
    have hg := rowsV_get hlens (j / sz) (by rw [hln]; exact hi) (j % sz) v (by simpa using hv)
    rw [hjs, hu] at hg
    rw [hc, hv, Option.some.inj hg]
end Go.Proofs.YtdgbjhfkmembdaaGreatDoor
