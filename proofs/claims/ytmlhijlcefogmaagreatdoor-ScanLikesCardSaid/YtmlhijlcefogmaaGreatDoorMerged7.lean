/-
  Ids and keys as cells: what a value of such a type holds, read as data; loads and stores of several cells at once. Over any program; conditions as each says.
  Lists of ids: their cells, whether they are a set, where an id stands in one. No conditions; no program.
  Lists of data as a slice's cells, each element some cells wide; such a slice read from what came in. Over any program; conditions as each says.
  A script as edits: what is kept. No conditions; no program.
  What the reference's Runes and Is give, and the two Bytes of layer 7. Condition: a text of at most 2^40 bytes (Runes makes a list).
  Words for memory, second part: append beside an iterator over a string. No conditions; no program.
-/
import Derived.Test.YtmlhijlcefogmaaGreatDoorKeySpec
import Derived.Test.YtmlhijlcefogmaaGreatDoorMerged2
import Derived.OpenShut
import Derived.Deep.Slices
import Derived.Deep.Fields
import Derived.StillTailTactics
import Derived.Test.YtmlhijlcefogmaaGreatDoorMerged6
import Derived.Test.YtmlhijlcefogmaaGreatDoorMerged5
import Derived.Lib.OthersKept
set_option linter.unusedVariables false
set_option maxHeartbeats 4000000
set_option maxRecDepth 100000
namespace Go.Proofs.YtmlhijlcefogmaaGreatDoor
open Go.RowKit

/-- An id's cells; a key's. -/
def idV (l : List UInt8) : List Value := l.map fun b => Value.int .u8 (b.toNat : Int)
def IdOk (l : List UInt8) : Prop := l.length = 32
theorem idV_length (l : List UInt8) : (idV l).length = l.length := by simp [idV]
theorem idV_one (l : List UInt8) : ∀ u ∈ idV l, u.oneCell' = true := by
  intro u hu
  obtain ⟨b, _, rfl⟩ := List.mem_map.1 hu
  rfl
section
variable {H : Type} {enc : TypeId × Value → H} {P : Program} {w : World} {base : Nat} {spare : Nat → Bool} {held : Bool} {fuel : Nat} {cs : List Value} {x : DataW H × List MemPlace}

end

/-- A load of several cells at once. -/
theorem run_loadN {P : Program} (w : World) (b off : Nat) (ty : TypeId) (cs : List Value) (d : TypeDesc) (hc : ∀ j u, cs[j]? = some u → w.cell? ⟨b, off + j, none⟩ = some u)
    (hu : P.underlying ty = some d) (hd : (match d with | .struct _ | .array _ _ => true | _ => false) = true) (hi : (P.info? ty).map (·.size) = some cs.length) :
    (loadVar ty ⟨b, off, none⟩).run P w = .ok (.agg cs.toArray) w := by
  have hl : (loadCells ⟨b, off, none⟩ cs.length).run P w = .ok cs.toArray w :=
    run_loadCells_list (P := P) w ⟨b, off, none⟩ cs (fun j v hv => by
      have hadd : (⟨b, off, none⟩ : Addr).add j = ⟨b, off + j, none⟩ := by unfold Addr.add; split <;> simp_all
      rw [hadd]
      exact hc j v hv)
  cases hq : P.info? ty with
  | none => simp [hq] at hi
  | some i =>
    have hs : i.size = cs.length := by simpa [hq] using hi
    have hagg : (isAgg ty).run P w = .ok true w := by
      unfold isAgg
      rw [Sem.run_bind, run_underlying hu w]
      cases d <;> simp_all
    simp [loadVar, Sem.run_bind, hagg, sizeOf, typeInfo, hq, hs, hl]
theorem wp_loadN {P : Program} {ops : Array Oper} {rest : List Oper} {o : Oper} {a : Act} {w : World} {Q : Exit → Act → World → Prop} (hgd : o.guard = none) (ty : TypeId) (x : Operand) (ho : o.op = .load ty x)
    (b off : Nat) (hx : a.eval x = .pointer (some ⟨b, off, none⟩)) (cs : List Value) (d : TypeDesc) (hc : ∀ j u, cs[j]? = some u → w.cell? ⟨b, off + j, none⟩ = some u)
    (hu : P.underlying ty = some d) (hd : (match d with | .struct _ | .array _ _ => true | _ => false) = true) (hi : (P.info? ty).map (·.size) = some cs.length)
    (h : wpList P ops Q rest (a.put o.dst (.agg cs.toArray)) w) : wpList P ops Q (o :: rest) a w :=
  wpList_plain hgd fun K hK => by
    have := hK _ _ h
    unfold Oper.wp execOp
    simp only [ho, hx, Instr.loadAt, Instr.sureAddr, Sem.run_bind, Sem.run_pure, Result.andThen_ok, run_loadN w b off ty cs d hc hu hd hi]
    exact this
end Go.Proofs.YtmlhijlcefogmaaGreatDoor
namespace Go.Proofs.YtmlhijlcefogmaaGreatDoor
open Go.RowKit

def idsV (l : List (List UInt8)) : List Value := l.flatMap idV
def IdsOk (l : List (List UInt8)) : Prop := ∀ i ∈ l, IdOk i
theorem IdsOk.tail {a : List UInt8} {l : List (List UInt8)} (h : IdsOk (a :: l)) : IdsOk l := fun i hi => h i (by simp [hi])
theorem IdsOk.sub {a b : List (List UInt8)} (h : IdsOk b) (hs : ∀ i ∈ a, i ∈ b) : IdsOk a := fun i hi => h i (hs i hi)
theorem IdsOk.app {a b : List (List UInt8)} (ha : IdsOk a) (hb : IdsOk b) : IdsOk (a ++ b) := fun i hi => (List.mem_append.1 hi).elim (ha i) (hb i)
theorem idsV_get : ∀ {l : List (List UInt8)}, IdsOk l → ∀ (i : Nat) (h : i < l.length) (j : Nat) (u : Value), (idV l[i])[j]? = some u → (idsV l)[i * 32 + j]? = some u
  | [], _, _, h, _, _, _ => by cases h
  | a :: l, ho, 0, _, j, u, hj => by
    have h1 : (idV a).length = 32 := by rw [idV_length]; exact ho a (by simp)
    have hlt := (List.getElem?_eq_some_iff.1 hj).1
    simp only [idsV, List.flatMap_cons, Nat.zero_mul, Nat.zero_add]
    rw [List.getElem?_append_left (by simpa using hlt)]
    exact hj
  | a :: l, ho, i + 1, h, j, u, hj => by
    have h1 : (idV a).length = 32 := by rw [idV_length]; exact ho a (by simp)
    have := idsV_get ho.tail i (by simpa using h) j u (by simpa using hj)
    simp only [idsV, List.flatMap_cons] at this ⊢
    rw [List.getElem?_append_right (by omega), h1, show (i + 1) * 32 + j - 32 = i * 32 + j by omega]
    exact this

theorem Sl.id {w : World} {B b off : Nat} {l : List (List UInt8)} (ho : IdsOk l) (h : ∀ j u, (idsV l)[j]? = some u → w.cell? ⟨b, off + j, none⟩ = some u) {i : Nat} (hi : i < l.length) : ∀ j u, (idV l[i])[j]? = some u → w.cell? ⟨b, off + i * 32 + j, none⟩ = some u := by
  intro j u hj
  rw [Nat.add_assoc]
  exact h _ _ (idsV_get ho i hi j u hj)

/-- Do ids rise strictly? -/
def isSetB : List (List UInt8) → Bool
  | a :: b :: r => decide (cmpB a b < 0) && isSetB (b :: r)
  | _ => true
theorem isSetB_iff : ∀ {l : List (List UInt8)}, isSetB l = true ↔ ∀ i (h : i + 1 < l.length), cmpB (l[i]'(by omega)) l[i + 1] < 0
  | [] => by simp [isSetB]
  | [a] => by simp [isSetB]
  | a :: b :: r => by
    rw [isSetB, Bool.and_eq_true, decide_eq_true_eq, isSetB_iff (l := b :: r)]
    constructor
    · rintro ⟨h1, h2⟩ i hi
      cases i with
      | zero => exact h1
      | succ i => exact h2 i (by simpa using hi)
    · intro h
      exact ⟨h 0 (by simp), fun i hi => h (i + 1) (by simpa using hi)⟩
theorem isSetB_pair {l : List (List UInt8)} (h : isSetB l = true) : l.Pairwise fun a b => cmpB a b < 0 := by
  induction l with
  | nil => exact List.Pairwise.nil
  | cons a l ih =>
    rw [List.pairwise_cons]
    have ht : isSetB l = true := by
      cases l with
      | nil => rfl
      | cons b r => rw [isSetB, Bool.and_eq_true] at h; exact h.2
    refine ⟨?_, ih ht⟩
    intro x hx
    cases l with
    | nil => cases hx
    | cons b r =>
      rw [isSetB, Bool.and_eq_true, decide_eq_true_eq] at h
      rcases List.mem_cons.1 hx with rfl | hx
      · exact h.1
      · exact cmpB_trans h.1 ((List.pairwise_cons.1 (ih ht)).1 x hx)
theorem isSetB_of_pair {l : List (List UInt8)} (h : l.Pairwise fun a b => cmpB a b < 0) : isSetB l = true := by
  rw [isSetB_iff]
  intro i hi
  exact (List.pairwise_iff_getElem.1 h) i (i + 1) (by omega) hi (by omega)

end Go.Proofs.YtmlhijlcefogmaaGreatDoor
namespace Go.Proofs.YtmlhijlcefogmaaGreatDoor
open Go.RowKit Go.ChangeShapes Go.WideShapes Go.ChangeAt

section
variable {α : Type} {enc : α → List Value} {sz : Nat}
def rowsV (enc : α → List Value) (l : List α) : List Value := l.flatMap enc
theorem rowsV_length : ∀ {l : List α}, (∀ x ∈ l, (enc x).length = sz) → (rowsV enc l).length = l.length * sz
  | [], _ => by simp [rowsV]
  | a :: l, h => by
    have h1 := h a (by simp)
    have h2 := rowsV_length (l := l) fun x hx => h x (by simp [hx])
    simp only [rowsV, List.flatMap_cons, List.length_append, List.length_cons] at h2 ⊢
    rw [h1, h2, Nat.add_mul]; omega
theorem rowsV_get : ∀ {l : List α}, (∀ x ∈ l, (enc x).length = sz) → ∀ (i : Nat) (h : i < l.length) (j : Nat) (u : Value), (enc l[i])[j]? = some u → (rowsV enc l)[i * sz + j]? = some u
  | [], _, _, h, _, _, _ => by cases h
  | a :: l, ho, 0, _, j, u, hj => by
    have h1 : (enc a).length = sz := ho a (by simp)
    have hlt := (List.getElem?_eq_some_iff.1 hj).1
    simp only [rowsV, List.flatMap_cons, Nat.zero_mul, Nat.zero_add]
    rw [List.getElem?_append_left (by simpa using hlt)]
    exact hj
  | a :: l, ho, i + 1, h, j, u, hj => by
    have h1 : (enc a).length = sz := ho a (by simp)
    have := rowsV_get (l := l) (fun x hx => ho x (by simp [hx])) i (by simpa using h) j u (by simpa using hj)
    simp only [rowsV, List.flatMap_cons] at this ⊢
    rw [List.getElem?_append_right (by rw [h1, Nat.add_mul]; omega), h1, show (i + 1) * sz + j - sz = i * sz + j by rw [Nat.add_mul]; omega]
    exact this
theorem Sl.row {w : World} {b off : Nat} {l : List α} (ho : ∀ x ∈ l, (enc x).length = sz) (h : ∀ j u, (rowsV enc l)[j]? = some u → w.cell? ⟨b, off + j, none⟩ = some u) {i : Nat} (hi : i < l.length) : ∀ j u, (enc l[i])[j]? = some u → w.cell? ⟨b, off + i * sz + j, none⟩ = some u := by
  intro j u hj
  rw [Nat.add_assoc]
  exact h _ _ (rowsV_get ho i hi j u hj)
end

end Go.Proofs.YtmlhijlcefogmaaGreatDoor
namespace Go.Proofs.YtmlhijlcefogmaaGreatDoor

abbrev EdD := Nat × Nat × ByteArray
def edV (x : EdD) : List Value := [.int .i64 (x.1 : Int), .int .i64 (x.2.1 : Int), .string x.2.2]
theorem edV_length (x : EdD) : (edV x).length = 3 := rfl
theorem edV_one (x : EdD) : ∀ u ∈ edV x, u.oneCell' = true := by
  intro u hu
  simp only [edV, List.mem_cons, List.not_mem_nil, or_false] at hu
  rcases hu with rfl | rfl | rfl <;> rfl
def noneE : ByteArray := ⟨#[]⟩
def edZ : EdD := (0, 0, noneE)
/-- How much edits keep. -/
def keepE (l : List EdD) : Nat := (l.map (·.1)).sum
/-- How many moves keep. -/
def onesN (l : List Nat) : Nat := (l.map fun m => if m = 1 then 1 else 0).sum
theorem onesN_next {l : List Nat} {i : Nat} (h : i < l.length) : onesN (l.take (i + 1)) = onesN (l.take i) + if l[i] = 1 then 1 else 0 := by
  unfold onesN
  rw [List.take_succ_eq_append_getElem h, List.map_append, List.sum_append]
  simp
theorem onesN_le (l : List Nat) : onesN l ≤ l.length := by
  unfold onesN
  induction l with
  | nil => simp
  | cons x l ih => simp only [List.map_cons, List.sum_cons, List.length_cons]; split <;> omega
/-- What edits hold behind some moves. -/
def EdOk (M : List Nat) (i : Nat) (l : List EdD) : Prop := (0 < i → l ≠ []) ∧ (∀ x ∈ l, x.1 ≤ i ∧ x.2.1 ≤ i ∧ x.2.2.size ≤ 4 * i) ∧ keepE l = onesN (M.take i) ∧ l.length ≤ i
theorem EdOk.start (M : List Nat) : EdOk M 0 [] := ⟨fun h => by omega, by simp, rfl, Nat.le_refl _⟩
theorem keepE_snoc (l : List EdD) (x : EdD) : keepE (l ++ [x]) = keepE l + x.1 := by simp [keepE]
/-- Edits that are there, the last one by itself. -/
theorem EdOk.last {M : List Nat} {i : Nat} {l : List EdD} (h : EdOk M i l) (hi : 0 < i) : ∃ p x, l = p ++ [x] := by
  rcases List.eq_nil_or_concat l with e | ⟨p, x, e⟩
  · exact absurd e (h.1 hi)
  · exact ⟨p, x, by simpa using e⟩
/-- A move, behind the edits p and the last one, which may be new. -/
theorem EdOk.next {M : List Nat} {i : Nat} {p : List EdD} {x y : EdD} (hi : i < M.length) (h : (∀ z ∈ p ++ [x], z.1 ≤ i ∧ z.2.1 ≤ i ∧ z.2.2.size ≤ 4 * i) ∧ keepE (p ++ [x]) = onesN (M.take i) ∧ p.length ≤ i) (hk : y.1 = x.1 + if M[i] = 1 then 1 else 0) (hd : y.2.1 ≤ x.2.1 + 1) (hs : y.2.2.size ≤ x.2.2.size + 4) :
    EdOk M (i + 1) (p ++ [y]) := by
  obtain ⟨h1, h2, h3⟩ := h
  refine ⟨fun _ => by simp, fun z hz => ?_, ?_, by simp; omega⟩
  · rcases List.mem_append.1 hz with hz | hz
    · have := h1 z (List.mem_append_left _ hz); omega
    · rw [List.mem_singleton] at hz
      subst hz
      have := h1 x (by simp)
      have : (if M[i] = 1 then 1 else 0) ≤ 1 := by split <;> omega
      omega
  · rw [keepE_snoc] at h2 ⊢
    rw [onesN_next hi, ← h2, hk]
    omega
theorem EdOk.fresh {M : List Nat} {i : Nat} {l : List EdD} (h : EdOk M i l) : (∀ z ∈ l ++ [edZ], z.1 ≤ i ∧ z.2.1 ≤ i ∧ z.2.2.size ≤ 4 * i) ∧ keepE (l ++ [edZ]) = onesN (M.take i) ∧ l.length ≤ i := by
  refine ⟨fun z hz => ?_, by rw [keepE_snoc]; exact h.2.2.1, h.2.2.2⟩
  rcases List.mem_append.1 hz with hz | hz
  · exact h.2.1 z hz
  · rw [List.mem_singleton] at hz
    subst hz
    exact ⟨Nat.zero_le _, Nat.zero_le _, Nat.zero_le _⟩
theorem EdOk.same {M : List Nat} {i : Nat} {p : List EdD} {x : EdD} (h : EdOk M i (p ++ [x])) : (∀ z ∈ p ++ [x], z.1 ≤ i ∧ z.2.1 ≤ i ∧ z.2.2.size ≤ 4 * i) ∧ keepE (p ++ [x]) = onesN (M.take i) ∧ p.length ≤ i :=
  ⟨h.2.1, h.2.2.1, by have := h.2.2.2; simp at this; omega⟩
/-- The next move of a script. -/
theorem diff_step {a b : List Int} {i : Nat} (hi : i < (movesS a b).length) : (placeS (movesS a b) i).2 ≤ b.length ∧
    (((movesS a b)[i] = 1 ∧ (placeS (movesS a b) (i + 1)).2 = (placeS (movesS a b) i).2 + 1) ∨ ((movesS a b)[i] = 2 ∧ (placeS (movesS a b) (i + 1)).2 = (placeS (movesS a b) i).2) ∨
    ((movesS a b)[i] = 3 ∧ (placeS (movesS a b) i).2 < b.length ∧ (placeS (movesS a b) (i + 1)).2 = (placeS (movesS a b) i).2 + 1)) := by
  obtain ⟨h1, h2, h3⟩ := place_at (a := a) (b := b) i (by omega)
  have hp : placeS (movesS a b) (i + 1) = nextAtM ((movesS a b).getD i 0) (placeS (movesS a b) i) := rfl
  have hg : (movesS a b).getD i 0 = (movesS a b)[i] := by rw [List.getD_eq_getElem?_getD, List.getElem?_eq_getElem hi]; rfl
  rw [hp]
  rw [List.drop_eq_getElem_cons hi] at h3
  rw [hg]
  generalize placeS (movesS a b) i = p at *
  generalize (movesS a b)[i] = m at *
  refine ⟨h2, ?_⟩
  rcases mv_case p.1 p.2 h1 h2 with ⟨_, _, e⟩ | ⟨r, e, _, q1, q2, _⟩ | ⟨r, e, _, q1⟩ | ⟨r, e, _, q1⟩
  · rw [e] at h3; cases h3
  · rw [e] at h3; injection h3 with h3 _; subst h3; exact .inl ⟨rfl, rfl⟩
  · rw [e] at h3; injection h3 with h3 _; subst h3; exact .inr (.inl ⟨rfl, rfl⟩)
  · rw [e] at h3; injection h3 with h3 _; subst h3; exact .inr (.inr ⟨rfl, q1, rfl⟩)
end Go.Proofs.YtmlhijlcefogmaaGreatDoor
namespace Go.Proofs.YtmlhijlcefogmaaGreatDoor
open Go.RowKit

theorem info_i32 : (Tryz.prog.info? 21).map (fun i => (i.zero, i.size, i.bytes)) = some (some (.int .i32 0), 1, 4) := by kernel_rfl

def i32s (l : List Nat) : List Value := l.map fun (r : Nat) => Value.int .i32 (r : Int)

/-- What Runes gives: the runes, or none and ErrText. -/
def RunesGives (s : ByteArray) (w : World) (e : Ending) (w' : World) : Prop :=
  Below w.heap.size w w' ∧ ((∃ l A c, runesOf s = some l ∧ e = .returned (.tuple #[.slice A l.length c, .int .i64 0, .int .i64 0]) ∧ Sl w' w'.heap.size A l.length 1 (i32s l)) ∨
    runesOf s = none ∧ ∃ n : Int, e = .returned (.tuple #[.slice none 0 0, .int .i64 n, .int .i64 5]))

theorem own_form {w : World} {base : Nat} {e : TypeId} {sz : Nat} {v : Value} {n : Nat} {xs : List Value} (h : w.ownsRow base e sz v n xs) : ∃ A c, v = .slice A n c := by
  rcases h.2 with ⟨hv, h0⟩ | ⟨g, cap, cur, hv, _⟩
  · exact ⟨none, 0, by rw [hv, h0]⟩
  · exact ⟨_, _, hv⟩

theorem runes_any (s : ByteArray) (w : World) (hs : s.size ≤ 1099511627776) : Calls Tryz.prog 30 #[.string s] w (RunesGives s w) := by
  have hs' : s.size ≤ maxLen := by unfold maxLen; omega
  go_enter Tryz.func30, Tryz.ntmps30
  go_wp2
  go_loopw [5, 6] (fun v n wr => ∃ (k : Nat) (l : List Nat), k ≤ s.size ∧ l.length ≤ k ∧ n = .int .i64 k ∧ wr.ownsRow w.heap.size 21 1 v l.length (i32s l) ∧ Below w.heap.size w wr ∧ Hid (runesOf s = (runesAt s k).map (l ++ ·))) (fun _ n _ => s.size - (intOf n).toNat)
  case atStart => exact ⟨0, [], by omega, by simp, rfl, World.ownsRow_nil _ _ _ _, Below.refl _ _, Lib.hid (by rw [runesOf_eq]; simp)⟩
  case round =>
    obtain ⟨k, l, hk, hl, rfl, hown, hbw, hR⟩ := hrel
    by_cases hlt : k < s.size
    · have hin := dec_in hlt
      go_wp2_with fail
      refine (one_any s k _ hlt hs').mono ?_
      rintro e w1 ⟨hb1, ⟨ho, rfl⟩ | ⟨ho, rfl⟩⟩
      · have HO := Lib.hid ho; clear ho
        have hr := decode_le s k
        have hbw1 : Below w.heap.size w w1 := hbw.trans (hb1.mono hbw.size)
        have hown1 : w1.ownsRow w.heap.size 21 1 u5 l.length (i32s l) := by
          refine hown.kept (row := none) ⟨hb1.os, hb1.tape, hb1.output, hb1.size, fun j hj _ => hb1.block j hj⟩ ?_
          rcases h : u5.ownBlock with _ | g
          · exact .inl rfl
          · exact .inr (by simp)
        have hne : (((Utf8.decode s k).2 : Int) == 0) = false := by simp; omega
        go_wp2_with (at_builtin; refine wp_app1 rfl _ _ 75 rfl w.heap.size 21 (.int .i32 0) 4 Tryz.underlying75 info_i32 rfl _ _ _ rfl hown1 _ _ rfl rfl ?c1 ?c2 ?c3 ?_)
        case c1 => unfold maxLen; omega
        case c2 => omega
        case c3 => exact hbw1.size
        intro v' w2 hown2 hbel
        have hb2 := hbel _ _ (Nat.le_refl _) hbw1
        clear hbel
        go_wp2_with fail
        go_roundw
        case rel =>
          refine ⟨k + (Utf8.decode s k).2, l ++ [(Utf8.decode s k).1], by omega, by simp; omega, by go_num, ?_, hb2, Lib.hid ?_⟩
          · simpa [i32s] using hown2
          · rw [hR.out, runesAt_ok hlt HO.out]
            cases runesAt s (k + (Utf8.decode s k).2) <;> simp
        case measure => simp [intOf]; omega
      · have HO := Lib.hid ho; clear ho
        go_wp2_with fail
        go_ret3
        refine ⟨hbw.trans (hb1.mono hbw.size), .inr ⟨by rw [hR.out, runesAt_bad hlt HO.out]; rfl, _, rfl⟩⟩
    · go_wp2_with fail
      go_ret3
      obtain ⟨A, c, hv⟩ := own_form hown
      refine ⟨hbw, .inl ⟨l, A, c, by rw [hR.out, runesAt_end (by omega)]; simp, ?_, ?_⟩⟩
      · rw [← hv]; rfl
      · rw [hv] at hown
        exact Sl.of_own hown

end Go.Proofs.YtmlhijlcefogmaaGreatDoor
namespace Go.Proofs.YtmlhijlcefogmaaGreatDoor
open Go.RowKit

/-- The same; and every other block that was there stands as it stood. -/
theorem wp_app1g {P : Program} {ops : Array Oper} {rest : List Oper} {o : Oper} {a : Act} {Q : Exit → Act → World → Prop} {w : World} (hgd : o.guard = none) (s x : Operand) (t : TypeId)
    (ho : o.op = .call { callee := .builtin .append, args := #[s, x], argTypes := #[t, t] })
    (base : Nat) (e : TypeId) (z : Value) (bytes : Nat) (ht : P.underlying t = some (.slice e)) (hinf : (P.info? e).map (fun i => (i.zero, i.size, i.bytes)) = some (some z, 1, bytes))
    (hz1 : z.cells.size = 1) (v : Value) (n : Nat) (xs : List Value) (hs : a.eval s = v) (hown : w.ownsRow base e 1 v n xs)
    (u : Value) (et : TypeId) (hx : a.eval x = .slice (some ⟨w.heap.size, 0, none⟩) 1 1) (hu : u.oneCell' = true)
    (hn : n + 1 ≤ maxLen) (hb : (n + 1) * bytes ≤ 140737488355328) (hbase : base ≤ w.heap.size)
    (h : ∀ v' w', w'.ownsRow base e 1 v' (n + 1) (xs ++ [u]) → (∀ B a, B ≤ base → Below B a w → Below B a w') → (∀ k, k < w.heap.size → v.ownBlock ≠ some k → w'.heap[k]? = w.heap[k]?) → wpList P ops Q rest (a.put o.dst v') w') :
    wpList P ops Q (o :: rest) a (w.alloc (.cells #[u] et)) := by
  obtain ⟨i0, hi, hz0, hz2, hz3⟩ := info_parts hinf
  refine wpList_append_own _ hgd s x t ho base e i0 z 1 bytes ht hi hz0 hz2 hz3 hz1 (by decide) v n xs hs (hown.alloc _) ⟨w.heap.size, 0, none⟩ 1 1 [u] hx rfl ?_ ?_ hn hb (by simp; omega) ?_
  · intro j u' hj
    match j, hj with
    | 0, hj => simp at hj; subst hj; simp [Addr.add]
  · intro u' hu'
    simp at hu'; subst hu'; exact hu
  · intro v' w' hown' hgrow _
    refine h v' w' hown' (fun B a hB hba => ?_) (fun k hk hne => ?_)
    · refine (hba.alloc (by omega) _).grown hgrow (by simp; omega) fun k hk => ?_
      have := (hown.lt k hk).1
      omega
    · rw [hgrow.block k (by simp; omega) (fun e => hne e.symm)]
      exact Below.heap_alloc _ _ _ hk
theorem own_iter_ne {w : World} {base : Nat} {e : TypeId} {sz : Nat} {v : Value} {n : Nat} {xs : List Value} (h : w.ownsRow base e sz v n xs) {k : Nat} {s : ByteArray} {p : Nat} (hk : w.heap[k]? = some (.stringIter s p)) : v.ownBlock ≠ some k := by
  intro hv
  rcases h.2 with ⟨hn, _⟩ | ⟨g, cap, cur, hvv, _, hg, _⟩
  · rw [hn] at hv; simp [Value.ownBlock] at hv
  · rw [hvv] at hv
    have : g = k := by simpa [Value.ownBlock] using hv
    subst this
    rw [hg] at hk; cases hk
theorem own_iterAt {w : World} {base : Nat} {e : TypeId} {sz : Nat} {v : Value} {n : Nat} {xs : List Value} (h : w.ownsRow base e sz v n xs) {k : Nat} {s : ByteArray} {p : Nat} (hk : w.heap[k]? = some (.stringIter s p)) (p' : Nat) : (w.iterAt k s p').ownsRow base e sz v n xs := by
  have hne := own_iter_ne h hk
  refine h.kept (row := some k) ⟨rfl, rfl, rfl, by rw [Lib.iterAt_size]; exact Nat.le_refl _, fun j hj hjk => Lib.iterAt_other w k j s p' (fun e => hjk (by rw [e]))⟩ (.inr hne)
end Go.Proofs.YtmlhijlcefogmaaGreatDoor
