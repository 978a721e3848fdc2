/-
  A slice of texts, a slice of files that came in: its cells as a list of paths and bytes, each within the form's reach. No conditions.
-/
import Derived.Test.YtdgbjhfkmembdaaGreatDoorFreshWalks
import Derived.Test.YtdgbjhfkmembdaaGreatDoorFrame
import Derived.Deep.SlicePairs
namespace Go.Proofs.YtdgbjhfkmembdaaGreatDoor
open Go.ChangeShapes Go.WideShapes Go.ChangeAt Go.RowKit
set_option linter.unusedVariables false

theorem addr_add (b off k : Nat) : (⟨b, off, none⟩ : Addr).add k = ⟨b, off + k, none⟩ := by unfold Addr.add; split <;> simp_all

theorem weightsAll_mem {H : Type} {P : Program} {e : TypeId} : ∀ {l : List (DataW H)} {d : DataW H}, d ∈ l → ∀ n ∈ d.weights P e, n ∈ DataW.weightsAll P e l
  | d' :: r, d, hd, n, hn => by
    simp only [DataW.weightsAll, List.mem_append]
    rcases List.mem_cons.1 hd with rfl | h
    · exact Or.inl hn
    · exact Or.inr (weightsAll_mem h n hn)

/-- A slice of texts that came in, each within the form's reach. -/
theorem strs_small {H : Type} {enc : TypeId × Value → H} {W : World} {a : Option Addr} {len cap : Nat} {d : DataW H} {ps : List MemPlace}
    (h : DataW.Trod enc Tryz.prog W 0 (fun _ => true) true 52 (.slice a len cap) d ps) {ts : List TypeId} {ds : List (DataW H)} (hsz : (DataW.weightsEach Tryz.prog ts ds).all (· ≤ reachBytes) = true) {j : Nat} (hts : ts[j]? = some 52) (hds : ds[j]? = some d) :
    ∃ taken : List ByteArray, taken.length = len ∧ len ≤ maxLen ∧ smallL taken ∧ Sl W W.heap.size a taken.length 1 (Go.Proofs.YtdgbjhfkmembdaaGreatDoor.strs taken) := by
  have lt : ∀ x ∈ ps, x.block < W.heap.size := by obtain ⟨m, hm⟩ := h; exact DataW.trod_lt m _ _ _ hm
  obtain ⟨fuel, hf⟩ := h
  rcases open_strings Tryz.underlying52 Tryz.underlying9 (by kernel_rfl) hf with ⟨hcs, _⟩ | ⟨x, l, c, ss, hcs, _, hl, hm, hss, hdx, hcell, hz⟩
  · simp [Value.cells] at hcs
    obtain ⟨rfl, rfl, rfl⟩ := hcs
    exact ⟨[], rfl, by unfold maxLen; omega, fun t ht => absurd ht (by simp), Sl.nil⟩
  · simp [Value.cells] at hcs
    obtain ⟨rfl, rfl, rfl⟩ := hcs
    have hsl : ss.length = cap := by simpa using hss
    have hlen : (ss.take len).length = len := by rw [List.length_take]; omega
    have hdd : d = .slice (Go.ChangeShapes.strs (ss.take len)) (Go.ChangeShapes.strs (ss.drop len)) := congrArg Prod.fst hdx
    subst hdd
    have hsm : smallL (ss.take len) := by
      intro t ht
      have hw := List.all_eq_true.1 hsz t.data.toList.length (DataW.weights_mem_each hts hds _ (by
        simp only [DataW.weights, Tryz.underlying52, List.mem_cons, List.mem_append]
        exact Or.inr (Or.inl (weightsAll_mem (d := .lit (.string t.data.toList)) (List.mem_map.2 ⟨t, ht, rfl⟩) _ (by simp [DataW.weights])))))
      have h1 := of_decide_eq_true hw
      have h2 : t.data.toList.length = t.size := L_length t
      have h3 : reachBytes = 140737488351232 := rfl
      omega
    refine ⟨ss.take len, hlen, by omega, hsm, by simp [Go.Proofs.YtdgbjhfkmembdaaGreatDoor.strs], fun h0 => ?_⟩
    rw [hlen] at h0
    obtain ⟨b, off, spot⟩ := x
    have hc := hcell 0 (by omega)
    obtain rfl : spot = none := by simpa [Addr.add] using World.cell?_spot hc
    have hblk : b < W.heap.size := by
      have hc0 : W.cell? ⟨b, off, none⟩ = some (.string (ss.getD 0 ByteArray.empty)) := by simpa [Addr.add] using hc
      rcases Nat.lt_or_ge b W.heap.size with q | q
      · exact q
      · unfold World.cell? at hc0
        rw [Array.getElem?_eq_none q] at hc0
        cases hc0
    refine ⟨b, off, rfl, hblk, fun j u hu => ?_⟩
    have hj : j < len := by
      have := (List.getElem?_eq_some_iff.1 hu).1
      simp [Go.Proofs.YtdgbjhfkmembdaaGreatDoor.strs] at this
      omega
    have hcj := hcell j (by omega)
    have e1 : (⟨b, off, none⟩ : Addr).add j = ⟨b, off + j, none⟩ := by unfold Addr.add; split <;> simp_all
    rw [e1] at hcj
    rw [hcj, ← hu]
    simp [Go.Proofs.YtdgbjhfkmembdaaGreatDoor.strs, hj, List.getD_eq_getElem?_getD, show j < ss.length by omega]

/-- Files, as a slice's cells. -/
def cells2 : List (ByteArray × ByteArray) → List Value
  | [] => []
  | f :: r => .string f.1 :: .string f.2 :: cells2 r
theorem cells2_length : ∀ fs, (cells2 fs).length = fs.length * 2
  | [] => rfl
  | f :: r => by simp only [cells2, List.length_cons, cells2_length r]; omega
theorem cells2_get : ∀ (fs : List (ByteArray × ByteArray)) (i : Nat) (h : i < fs.length), (cells2 fs)[i * 2]? = some (.string fs[i].1) ∧ (cells2 fs)[i * 2 + 1]? = some (.string fs[i].2)
  | f :: r, 0, _ => ⟨rfl, rfl⟩
  | f :: r, i + 1, h => by
    have := cells2_get r i (by simpa using h)
    rw [show (i + 1) * 2 = i * 2 + 1 + 1 by omega]
    simpa [cells2] using this
theorem cells2_append : ∀ (a b : List (ByteArray × ByteArray)), cells2 (a ++ b) = cells2 a ++ cells2 b
  | [], b => rfl
  | f :: r, b => by simp only [cells2, List.cons_append, cells2_append r b]
theorem cells2_one : ∀ (fs : List (ByteArray × ByteArray)), ∀ u ∈ cells2 fs, u.oneCell' = true
  | [], u, h => by cases h
  | f :: r, u, h => by
    simp only [cells2, List.mem_cons] at h
    rcases h with rfl | rfl | h
    · rfl
    · rfl
    · exact cells2_one r u h
def smallF (fs : List (ByteArray × ByteArray)) : Prop := ∀ f ∈ fs, f.1.size ≤ 140737488355328 ∧ f.2.size ≤ 140737488355328

theorem files_small {H : Type} {enc : TypeId × Value → H} {W : World} {a : Option Addr} {len cap : Nat} {d : DataW H} {ps : List MemPlace}
    (h : DataW.Trod enc Tryz.prog W 0 (fun _ => true) true 26 (.slice a len cap) d ps) {ts : List TypeId} {ds : List (DataW H)} (hsz : (DataW.weightsEach Tryz.prog ts ds).all (· ≤ reachBytes) = true) {j : Nat} (hts : ts[j]? = some 26) (hds : ds[j]? = some d) :
    ∃ fs : List (ByteArray × ByteArray), fs.length = len ∧ len ≤ maxLen ∧ len ≤ cap ∧ smallF fs ∧ Sl W W.heap.size a fs.length 2 (cells2 fs) := by
  have lt : ∀ x ∈ ps, x.block < W.heap.size := by obtain ⟨m, hm⟩ := h; exact DataW.trod_lt m _ _ _ hm
  obtain ⟨fuel, hf⟩ := h
  rcases Go.Deep.open_slice_pairs Tryz.underlying26 Tryz.underlying33 (by kernel_rfl) rfl rfl (by kernel_rfl) (by kernel_rfl) hf with ⟨hcs, _⟩ | ⟨x, l, c, m, n, V0, V1, D0, D1, P0, P1, hcs, _, hl, hc, hm, hdx, hcell⟩
  · simp [Value.cells] at hcs
    obtain ⟨rfl, rfl, rfl⟩ := hcs
    exact ⟨[], rfl, by unfold maxLen; omega, by omega, fun t ht => absurd ht (by simp), Sl.nil⟩
  · simp [Value.cells] at hcs
    obtain ⟨rfl, rfl, rfl⟩ := hcs
    have hmc : m = cap := by simpa using hm
    subst hmc
    have hdd := congrArg Prod.fst hdx
    simp only at hdd
    subst hdd
    have hel : ∀ i, i < len → ∃ f : ByteArray × ByteArray, V0 i = .string f.1 ∧ V1 i = .string f.2 ∧ D0 i = .lit (.string (L f.1)) ∧ D1 i = .lit (.string (L f.2)) := by
      intro i hi
      obtain ⟨_, _, t0, t1⟩ := hcell i (by omega)
      obtain ⟨s0, e0, x0, _⟩ := DataW.trod_string Tryz.underlying9 t0
      obtain ⟨s1, e1, x1, _⟩ := DataW.trod_string Tryz.underlying9 t1
      simp only [List.cons.injEq, and_true] at e0 e1
      exact ⟨(s0, s1), e0, e1, congrArg Prod.fst x0, congrArg Prod.fst x1⟩
    obtain ⟨F, hF⟩ := Go.Deep.choose_lt hel
    refine ⟨(List.range len).map F, by simp, by omega, hl, ?_, ?_⟩
    · intro f hf
      obtain ⟨i, hi, rfl⟩ := List.mem_map.1 hf
      have hi' : i < len := by simpa using hi
      obtain ⟨_, _, h0, h1⟩ := hF i hi'
      have hmem : ∀ k, k ∈ [(L (F i).1).length, (L (F i).2).length] → k ≤ 140737488355328 := by
        intro k hk
        have hw := List.all_eq_true.1 hsz k (DataW.weights_mem_each hts hds _ (by
          simp only [DataW.weights, Tryz.underlying26, List.mem_cons, List.mem_append]
          refine Or.inr (Or.inl (weightsAll_mem (d := .agg [D0 i, D1 i]) (List.mem_map.2 ⟨i, by simpa using hi', rfl⟩) _ ?_))
          rw [h0, h1]
          simp only [DataW.weights, Tryz.underlying33, List.map_cons, List.map_nil, DataW.weightsEach]
          simpa using hk))
        have h1 := of_decide_eq_true hw
        have h3 : reachBytes = 140737488351232 := rfl
        omega
      rw [← L_length, ← L_length]
      exact ⟨hmem _ (by simp), hmem _ (by simp)⟩
    · refine ⟨by rw [cells2_length], fun h0 => ?_⟩
      have hlen : ((List.range len).map F).length = len := by simp
      rw [hlen] at h0
      obtain ⟨b, off, spot⟩ := x
      have hc0 := (hcell 0 (by omega)).1
      obtain rfl : spot = none := by simpa [Addr.add] using World.cell?_spot hc0
      have hblk : b < W.heap.size := by
        have hc1 : W.cell? ⟨b, off, none⟩ = some (V0 0) := by simpa [Addr.add] using hc0
        rcases Nat.lt_or_ge b W.heap.size with q | q
        · exact q
        · unfold World.cell? at hc1
          rw [Array.getElem?_eq_none q] at hc1
          cases hc1
      refine ⟨b, off, rfl, hblk, fun j u hu => ?_⟩
      have hj := (List.getElem?_eq_some_iff.1 hu).1
      rw [cells2_length, hlen] at hj
      obtain ⟨g0, g1⟩ := cells2_get ((List.range len).map F) (j / 2) (by rw [hlen]; omega)
      obtain ⟨c0, c1, _, _⟩ := hcell (j / 2) (by omega)
      obtain ⟨e0, e1, _, _⟩ := hF (j / 2) (by omega)
      have ea : ∀ k, (⟨b, off, none⟩ : Addr).add k = ⟨b, off + k, none⟩ := addr_add b off
      rw [ea] at c0
      have ea2 : ((⟨b, off, none⟩ : Addr).add (j / 2 * 2 + 1)) = ⟨b, off + (j / 2 * 2 + 1), none⟩ := ea _
      rw [ea2] at c1
      have hFi : ((List.range len).map F)[j / 2]'(by rw [hlen]; omega) = F (j / 2) := by simp
      rw [hFi] at g0 g1
      rcases Nat.mod_two_eq_zero_or_one j with hj2 | hj2
      · have ej : j / 2 * 2 = j := by omega
        rw [ej] at g0 c0
        rw [hu] at g0
        rw [c0, e0, Option.some.inj g0]
      · have ej : j / 2 * 2 + 1 = j := by omega
        rw [ej] at g1 c1
        rw [hu] at g1
        rw [c1, e1, Option.some.inj g1]
end Go.Proofs.YtdgbjhfkmembdaaGreatDoor
