/-
  What the reference's pieces gives. Condition: a text of at most 2^40 bytes.
-/
import Derived.Test.YtdgbjhfkmembdaaGreatDoorRefPath
namespace Go.Proofs.YtdgbjhfkmembdaaGreatDoor
open Go.RowKit
set_option linter.unusedVariables false

theorem info_str : (Tryz.prog.info? 9).map (fun i => (i.zero, i.size, i.bytes)) = some (some (.string ByteArray.empty), 1, 16) := by kernel_rfl

/-- After k bytes, the piece that is open begins at f. -/
def Piecing (s : ByteArray) (q : List ByteArray) (f k : Nat) : Prop :=
  (k ≤ s.size ∧ f ≤ k ∧ pieces (L s) = q.map L ++ pieces ((L s).drop f) ∧ (∀ j, f ≤ j → j < k → B s j ≠ 47)) ∨ (k = s.size + 1 ∧ pieces (L s) = q.map L)

/-- A list of strings handed back. -/
def StrsBack (l : List (List UInt8)) (w : World) (e : Ending) (w' : World) : Prop :=
  Below w.heap.size w w' ∧ ∃ (q : List ByteArray) (A : Option Addr) (c : Nat), q.map L = l ∧ e = .returned (.slice A q.length c) ∧ Sl w' w'.heap.size A q.length 1 (q.map Value.string) ∧ ∀ t ∈ q, t.size ≤ 1099511627776

theorem fin_pieces {s : ByteArray} {q : List ByteArray} (h : pieces (L s) = q.map L) (hs : s.size ≤ 1099511627776) : ∀ t ∈ q, t.size ≤ 1099511627776 := by
  have key : ∀ (l : List UInt8) (p : List UInt8), p ∈ pieces l → p.length ≤ l.length := by
    intro l
    induction l with
    | nil => intro p hp; simp [pieces] at hp; subst hp; simp
    | cons c l ih =>
      intro p hp
      rw [pieces] at hp
      split at hp
      · rcases List.mem_cons.1 hp with rfl | hp
        · simp
        · have := ih p hp; simp; omega
      · split at hp
        · rename_i x xs hx
          rcases List.mem_cons.1 hp with rfl | hp
          · have := ih x (by rw [hx]; simp); simp; omega
          · have := ih p (by rw [hx]; simp [hp]); simp; omega
        · simp at hp; subst hp; simp
  intro t ht
  have hm : L t ∈ pieces (L s) := by rw [h]; exact List.mem_map_of_mem ht
  have := key _ _ hm
  rw [L_length, L_length] at this
  omega

set_option maxHeartbeats 1000000 in
set_option maxRecDepth 100000 in
theorem pieces_any (s : ByteArray) (w : World) (hs : s.size ≤ 1099511627776) : Calls Tryz.prog 277 #[.string s] w (StrsBack (pieces (L s)) w) := by
  have hb := getB s
  go_enter Tryz.func277, Tryz.ntmps277
  go_wp2
  go_loopw [3, 4, 5] (fun v sf si wr => ∃ (q : List ByteArray) (f k : Nat), k ≤ s.size + 1 ∧ f ≤ s.size + 1 ∧ q.length ≤ k ∧ sf = .int .i64 f ∧ si = .int .i64 k ∧ wr.ownsRow w.heap.size 9 1 v q.length (q.map Value.string) ∧ Below w.heap.size w wr ∧ Hid (Piecing s q f k)) (fun _ _ si _ => s.size + 1 - (intOf si).toNat)
  case atStart => exact ⟨[], 0, 0, by omega, by omega, by simp, rfl, rfl, World.ownsRow_nil _ _ _ _, Below.refl _ _, Lib.hid (.inl ⟨by omega, by omega, by simp, fun j h1 h2 => absurd h2 (by omega)⟩)⟩
  case round =>
    obtain ⟨q, f, k, hk, hf, hql, rfl, rfl, hown, hbw, hP⟩ := hrel
    by_cases hlt : k < s.size
    · have hB := B_lt s k
      have hke : ((k : Int) == (s.size : Int)) = false := by simp; omega
      obtain ⟨hk1, hfk, hp1, hp2⟩ : k ≤ s.size ∧ f ≤ k ∧ pieces (L s) = q.map L ++ pieces ((L s).drop f) ∧ (∀ j, f ≤ j → j < k → B s j ≠ 47) := by
        rcases hP.out with h | h
        · exact h
        · omega
      have HP1 := Lib.hid hp1; clear hp1
      have HP2 := Lib.hid hp2; clear hp2
      by_cases h47 : B s k = 47
      · have h47' : (((B s k : Nat) : Int) == 47) = true := by rw [h47]; rfl
        have H47 := Lib.hid h47; clear h47
        go_wp2_with (at_builtin; refine wp_app1 rfl _ _ 52 rfl w.heap.size 9 (.string ByteArray.empty) 16 Tryz.underlying52 info_str rfl _ _ _ rfl hown _ _ rfl rfl ?c1 ?c2 ?c3 ?_)
        case c1 => unfold maxLen; omega
        case c2 => omega
        case c3 => exact hbw.size
        intro v' w2 hown2 hbel
        have hb2 := hbel _ _ (Nat.le_refl _) hbw
        clear hbel
        go_wp2_with fail
        go_roundw
        case rel =>
          refine ⟨q ++ [s.extract f k], k + 1, k + 1, by omega, by omega, by simp; omega, by go_num, by go_num, ?_, hb2, Lib.hid (.inl ⟨by omega, by omega, ?_, fun j h1 h2 => absurd h2 (by omega)⟩)⟩
          · simpa using hown2
          · rw [HP1.out, pieces_at hfk hlt H47.out HP2.out]; simp
        case measure => simp [intOf]; omega
      · have h47' : (((B s k : Nat) : Int) == 47) = false := by simp; omega
        have H47 := Lib.hid h47; clear h47
        go_wp2_with fail
        go_roundw
        case rel =>
          refine ⟨q, f, k + 1, by omega, by omega, by omega, rfl, by go_num, hown, hbw, Lib.hid (.inl ⟨by omega, by omega, HP1.out, fun j h1 h2 => ?_⟩)⟩
          rcases (by omega : j < k ∨ j = k) with h | h
          · exact HP2.out j h1 h
          · rw [h]; exact H47.out
        case measure => simp [intOf]; omega
    · by_cases hke : k = s.size
      · obtain ⟨hk1, hfk, hp1, hp2⟩ : k ≤ s.size ∧ f ≤ k ∧ pieces (L s) = q.map L ++ pieces ((L s).drop f) ∧ (∀ j, f ≤ j → j < k → B s j ≠ 47) := by
          rcases hP.out with h | h
          · exact h
          · omega
        subst hke
        have HP1 := Lib.hid hp1; clear hp1
        have HP2 := Lib.hid hp2; clear hp2
        go_wp2_with (at_builtin; refine wp_app1 rfl _ _ 52 rfl w.heap.size 9 (.string ByteArray.empty) 16 Tryz.underlying52 info_str rfl _ _ _ rfl hown _ _ rfl rfl ?c1 ?c2 ?c3 ?_)
        case c1 => unfold maxLen; omega
        case c2 => omega
        case c3 => exact hbw.size
        intro v' w2 hown2 hbel
        have hb2 := hbel _ _ (Nat.le_refl _) hbw
        clear hbel
        go_wp2_with fail
        go_roundw
        case rel =>
          refine ⟨q ++ [s.extract f s.size], s.size + 1, s.size + 1, by omega, by omega, by simp; omega, by go_num, by go_num, ?_, hb2, Lib.hid (.inr ⟨rfl, ?_⟩)⟩
          · simpa using hown2
          · rw [HP1.out, pieces_end hfk HP2.out]; simp
        case measure => simp [intOf]
      · go_wp2_with fail
        go_ret
        obtain ⟨A, c, hv⟩ := own_form hown
        have hfin : pieces (L s) = q.map L := by
          rcases hP.out with h | h
          · omega
          · exact h.2
        refine ⟨hbw, q, A, c, hfin.symm, ?_, ?_, fin_pieces hfin hs⟩
        · rw [← hv]; rfl
        · rw [hv] at hown
          exact Sl.of_own hown
end Go.Proofs.YtdgbjhfkmembdaaGreatDoor
