/-
  Who wrote what at a path, and what adding a change gives, at once. Conditions: as each says.
-/
import Derived.Test.YtdgbjhfkmembdaaGreatDoorStateBlame
import Derived.Test.YtdgbjhfkmembdaaGreatDoorStateAdd
namespace Go.Proofs.YtdgbjhfkmembdaaGreatDoor
open Go.RowKit Go.Maps
set_option linter.unusedVariables false
set_option linter.unusedSimpArgs false

theorem textR_len {d : List RunD} (h : ∀ r ∈ d, r.2.1.length ≤ 65536) : (textR d).length ≤ d.length * 262144 := by
  unfold textR
  induction d with
  | nil => simp
  | cons r d ih =>
    have h1 := h r (by simp)
    have h2 := bytesU_len r.2.1
    have h3 := ih fun x hx => h x (List.mem_cons_of_mem _ hx)
    have h4 : (if r.2.2 then [] else bytesU r.2.1).length ≤ 262144 := by
      split
      · simp
      · omega
    rw [List.flatMap_cons, List.length_append, List.length_cons, Nat.succ_mul]
    omega
/-- The rows at a path. -/
def blameAt (S : StateD) (p : ByteArray) : List BlameD := match findS S.2.1 (L p) with
  | none => []
  | some k => blameR (authorS S) (piecesR ((docAt S k).getD []))
theorem pieces_len (d : List RunD) : (piecesR d).length ≤ d.length := by
  unfold piecesR
  have : ∀ (l : List RunD) (st : List PieceD × Bool), (l.foldl stepP st).1.length ≤ st.1.length + l.length := by
    intro l
    induction l with
    | nil => intro st; simp
    | cons r l ih =>
      intro st
      rw [List.foldl_cons, List.length_cons]
      refine Nat.le_trans (ih _) ?_
      have : (stepP st r).1.length ≤ st.1.length + 1 := by
        unfold stepP
        split
        · simp
        · split
          · unfold moreP
            cases hl : st.1.getLast? with
            | none => simp
            | some p =>
              have hs := congrArg List.length (last_split hl)
              rw [List.length_append, List.length_singleton] at hs
              simp only [List.length_append, List.length_singleton]
              omega
          · simp
      omega
  have := this d ([], true)
  simpa using this
theorem DocAt.pieces {w : World} {B p : Nat} {v : Value} {d : List RunD} (h : DocAt w B p v d) (hd : SmallD d) (hix : RunIx d) :
    Calls Tryz.prog 41 #[.pointer (some ⟨p, 0, none⟩)] w fun e w' => ∃ v', e = .returned v' ∧ w'.ownsRow w.heap.size 102 36 v' (piecesR d).length (rowsV pieceV (piecesR d)) ∧ (∀ x ∈ piecesR d, PieceOk x) ∧ Below w.heap.size w w' := by
  obtain ⟨rs, hr, hI, ho⟩ := h.rows
  have hm : ∀ r ∈ rs, r.2.2.1.length ≤ 65536 ∧ ∀ u ∈ r.2.2.1, EncIs u := fun r hrr => hd.2 (runOf r) (by rw [← hr]; exact List.mem_map_of_mem hrr)
  have := pieces_run rs B p v w ⟨h.box, h.low, hI, ho⟩ (by rw [hr]; exact hix) (fun r hrr => (hm r hrr).2) (by have := hd.1; rw [← hr, List.length_map] at this; exact this) (fun r hrr => (hm r hrr).1)
  rw [hr] at this
  exact this
set_option maxRecDepth 100000 in
theorem sblame_any (B s : Nat) (S : StateD) (q : StateL) (p : ByteArray) (w : World) (h : StateAt w B s S q) (hl : S.2.1.length ≤ 90) (hsm : ∀ x ∈ S.2.1, x.2.2.2.size ≤ 1073741824) (hg : Glob w) (hk : KeyOk ((findS S.2.1 (L p)).getD zeroKd))
    (hd : ∀ k d, findS S.2.1 (L p) = some k → docAt S k = some d → SmallD d ∧ RunIx d ∧ RunsOf (fun k => (entryAt S k.2.1).isSome = true) d ∧ ∀ x ∈ piecesR d, PieceOk x) :
    Calls Tryz.prog 12 #[.pointer (some ⟨s, 0, none⟩), .string p] w fun e w' => Below w.heap.size w w' ∧ ∃ v, e = .returned (.tuple #[v, .int .i64 (errAt S p)]) ∧ w'.ownsRow w.heap.size 43 34 v (blameAt S p).length (rowsV blameV (blameAt S p)) := by
  have hf := sfind_any B s S q p w h hl hsm hg hk
  unfold FindRes at hf
  unfold blameAt errAt
  obtain ⟨o, ho⟩ : ∃ o, findS S.2.1 (L p) = o := ⟨_, rfl⟩
  rw [ho] at hk hf ⊢
  have hnil : ∀ u : World, Calls Tryz.prog 41 #[.pointer none] u fun e w' => ∃ v', e = .returned v' ∧ w'.ownsRow u.heap.size 102 36 v' ([] : List PieceD).length (rowsV pieceV []) ∧ Below u.heap.size u w' := fun u => (pieces_nil u).mono fun e w' ⟨h1, h2⟩ => ⟨_, h2, by rw [h1]; exact World.ownsRow_nil _ _ _ _, by rw [h1]; exact Below.refl _ _⟩
  cases o with
  | none => exact sblame_core B s S q p (0, zero32, 0) rfl none 4 [] w h hf (fun u hu => hnil u) (fun x hx => by cases hx) (by decide) (by decide) (fun x hx => by cases hx)
  | some k =>
    obtain ⟨od, hod⟩ : ∃ o, docAt S k = o := ⟨_, rfl⟩
    have hp : docPtr S q k = .pointer (od.map fun _ => ⟨q.ptr k, 0, none⟩) := by unfold docPtr; rw [hod]; cases od <;> rfl
    dsimp only at hf
    rw [hp] at hf
    dsimp only
    rw [hod]
    cases od with
    | none => exact sblame_core B s S q p k (keyV_length hk) none 0 [] w h hf (fun u hu => hnil u) (fun x hx => by cases hx) (by decide) (by decide) (fun x hx => by cases hx)
    | some d =>
      obtain ⟨d1, d2, d3, d4⟩ := hd k d ho hod
      have hpl := pieces_len d
      have htl := textR_len fun r hr => (d1.2 r hr).1
      have hpo : PiecesOf (fun i => (entryAt S i).isSome = true) (piecesR d) := pieces_of d ([], true) d3 fun x hx => by cases hx
      have := d1.1
      exact sblame_core B s S q p k (keyV_length hk) _ 0 (piecesR d) w h hf (fun u hu => (((h.docs k d hod).2.keep hu).pieces d1 d2).mono fun e w' ⟨v', h1, h2, h3, h4⟩ => ⟨v', h1, h2, h4⟩) d4 (by omega) (by rw [textP_pieces]; omega) (fun x hx => (hpo x hx).1)
/-- Adding. -/
theorem add_any (B s : Nat) (S : StateD) (q : StateL) (i : List UInt8) (c : ChangeD) (Ad : Option Addr) (cd : Nat) (Ao : Option Addr) (co : Nat) (w : World) (h : StateAt w B s S q) (hi : IdOk i) (h1 : Sl w w.heap.size Ad c.2.1.length 32 (idsV c.2.1)) (h2 : Sl w w.heap.size Ao c.2.2.2.length 70 (rowsV opV c.2.2.2)) (hf : AddFine S q c) (hg : Glob w) (hsg : ShaG w) :
    Calls Tryz.prog 17 #[.pointer (some ⟨s, 0, none⟩), .agg (idV i).toArray, .agg (chC c.1 Ad c.2.1.length cd c.2.2.1 Ao c.2.2.2.length co).toArray] w fun e w' => (encC c ≠ 0 ∧ AddGives w B s S S q (encC c) c.2.2.2.length e w') ∨ (encC c = 0 ∧ AddGives w B s S (addAt S (idC c) i c).2 q (addAt S (idC c) i c).1 c.2.2.2.length e w') := by
  by_cases he : encC c = 0
  · exact (add_good B s S q i c Ad cd Ao co w h hi h1 h2 hf hg hsg he).mono fun e w' hx => .inr ⟨he, hx⟩
  · exact (add_bad B s S q i c Ad cd Ao co w h hi h1 h2 hf hg hsg he).mono fun e w' hx => .inl ⟨he, hx⟩
end Go.Proofs.YtdgbjhfkmembdaaGreatDoor
