/-
  Evaluation of closed runs: what the two sums and utf.Check give, as entries that need no run. Conditions: the tables of package sha stand in the abstract heap; the bytes are of a given list.
  The sum of bytes, so that it can be worked out. Conditions: none.
  What law 18's awake gives, worked out. Condition: the tables of package sha.
  ScanLikes' walk. Conditions: the tables of package sha.
-/
import Derived.Test.YtmlhijlcefogmaaGreatDoorEvW
import Derived.Test.YtmlhijlcefogmaaGreatDoorShaRefSum
import Derived.Test.YtmlhijlcefogmaaGreatDoorMerged5
import Derived.Test.YtmlhijlcefogmaaGreatDoorMerged25
import Derived.Lib.LaidTab
import Derived.Test.YtmlhijlcefogmaaGreatDoorMerged21
set_option linter.unusedVariables false
set_option linter.unusedSimpArgs false
set_option maxHeartbeats 4000000
set_option maxRecDepth 100000
namespace Go.Proofs.YtmlhijlcefogmaaGreatDoor
namespace Ev
open Go.RowKit

noncomputable section
/-- Do whole numbers of a kind stand in a row from a place on? -/
def natsAt (k : IntKind) (cs : T V) (l : List Nat) : Nat → Bool :=
  List.rec (motive := fun _ => Nat → Bool) (fun _ => true) (fun x _ ih o => match cs.at o with
    | some (.i k' (.ofNat y)) => match sameK k k' && Nat.beq y x with | true => fN (Nat.succ o) ih | false => false
    | _ => false) l
def rowIs (k : IntKind) (l : List Nat) (o : Option O) : Bool := match o with | some (.row cs _ _ _ _) => natsAt k cs l 0 | _ => false
abbrev SumTab := List (List Nat × List Nat)
def sumAt (tab : SumTab) (cs : T V) (o len : Nat) : Option (List Nat) :=
  List.rec (motive := fun _ => Option (List Nat)) none (fun p _ ih => match Nat.beq len p.1.length && natsAt .u8 cs p.1 o with | true => some p.2 | false => ih) tab
def sumV (tab : SumTab) (H : T O) (n : Nat) (v : V) : Option (V × T O × Nat) :=
  match v with
  | .s b o len _ _ _ => match H.at b with
    | some (.row cs _ _ _ _) => match sumAt tab cs o len with
      | some d => some (.a (d.map fun x => .i .u8 (.ofNat x)), H, n)
      | none => none
    | _ => none
  | _ => none
def gRef (tab : SumTab) (args : List V) (H : T O) (n : Nat) : Option (V × T O × Nat) := match args with | [v] => sumV tab H n v | _ => none
def firstN : List Nat := (st8 firstS).map Int.toNat
def wordsN : List Nat := keysS.map Int.toNat
def gSha (tab : SumTab) (args : List V) (H : T O) (n : Nat) : Option (V × T O × Nat) := match args with
  | [.s b o 1 _ _ _] => match H.at b with
    | some (.row cs _ _ _ _) => match cs.at o, rowIs .u32 firstN (H.at 2) && rowIs .u32 wordsN (H.at 3) with
      | some v, true => sumV tab H n v
      | _, _ => none
    | _ => none
  | _ => none
def asciiB (l : List Nat) : Bool := List.rec (motive := fun _ => Bool) true (fun x _ ih => match Nat.blt x 128 with | true => ih | false => false) l
def gChk (args : List V) (H : T O) (n : Nat) : Option (V × T O × Nat) := match args with
  | [.str l] => match Nat.ble l.length 100000 && asciiB l with | true => some (.t [.i .i64 0, .i .i64 0], H, n) | false => none
  | _ => none
def smT (tab : SumTab) : Sums := fun f => match Nat.beq f 88 with
  | true => some (gSha tab)
  | false => match Nat.beq f 97 with
    | true => some (gRef tab)
    | false => match Nat.beq f 23 with | true => some gChk | false => none
end
/-- Each row of the table: bytes, their sum. -/
def TabOk (tab : SumTab) : Prop := ∀ p ∈ tab, shaS (p.1.map UInt8.ofNat) = p.2.map UInt8.ofNat ∧ (∀ x ∈ p.1, x < 256) ∧ (∀ x ∈ p.2, x < 256) ∧ p.1.length ≤ 1000000
section
variable {G : Nat} {S : Nat → Prop} {μ : Nat → Loc} {h : Nat → Option O} {w w' : World} {n : Nat}
theorem RH.below (r : RH G S μ h w) (hb : Below w.heap.size w w') : RH G S μ h w' ∧ Go S μ h w n S μ h w' n := by
  have st : ∀ b o, h b = some o → w'.heap[(μ b).blk]? = w.heap[(μ b).blk]? := fun b o ho => by
    obtain ⟨_, x, hx, _⟩ := r.ok b o ho
    exact hb.block _ (Array.getElem?_eq_some_iff.1 hx).1
  refine ⟨⟨fun b o ho => ?_, r.inj, r.glob⟩, { Go.refl r with os := hb.os, tape := hb.tape, output := hb.output, size := hb.size, still := fun k hk _ => hb.block k hk }⟩
  obtain ⟨hS, x, hx, hor⟩ := r.ok b o ho
  exact ⟨hS, x, (st b o ho).trans hx, hor⟩
theorem natsAt_ok {k : IntKind} {cs : T V} : ∀ {l : List Nat} {o : Nat}, natsAt k cs l o = true → ∀ j x, l[j]? = some x → cs.at (o + j) = some (.i k (.ofNat x)) := by
  intro l
  induction l with
  | nil => intro o _ j x hx; simp at hx
  | cons y l ih =>
    intro o he j x hx
    replace he : (match cs.at o with
      | some (.i k' (.ofNat z)) => match sameK k k' && Nat.beq z y with | true => fN (Nat.succ o) (natsAt k cs l) | false => false
      | _ => false) = true := he
    split at he
    · rename_i k' z hc
      split at he
      · rename_i hb
        simp only [Bool.and_eq_true] at hb
        have hk := sameK_ok hb.1
        have hz := Nat.eq_of_beq_eq_true hb.2
        subst hk hz
        rw [fN_eq] at he
        cases j with
        | zero => simp at hx; subst hx; exact hc
        | succ j => simp at hx; have := ih he j x hx; rw [← this]; congr 1; omega
      · cases he
    · cases he
theorem RH.u8 (r : RH G S μ h w) {b : Nat} {cs : T V} {len : Nat} {el : TypeId} {fz : Fz} {ro : Bool} (hb : h b = some (.row cs len el fz ro)) {o : Nat} {l : List Nat} (hl : ∀ x ∈ l, x < 256) (hn : natsAt .u8 cs l o = true) :
    Sl w w.heap.size (some ⟨(μ b).blk, (μ b).sh + o, none⟩) (l.map UInt8.ofNat).length 1 (idV (l.map UInt8.ofNat)) := by
  refine ⟨by simp [idV], fun _ => ⟨_, _, rfl, ?_, fun j u hu => ?_⟩⟩
  · obtain ⟨_, x, hx, _⟩ := r.ok b _ hb
    exact (Array.getElem?_eq_some_iff.1 hx).1
  · simp only [idV, List.getElem?_map] at hu
    cases hj : l[j]? with
    | none => rw [hj] at hu; simp at hu
    | some x =>
      rw [hj] at hu
      simp at hu
      have hx : x < 256 := hl x (List.mem_of_getElem? hj)
      obtain ⟨y, hy, _, hv⟩ := r.cell hb (natsAt_ok hn j x hj)
      rw [Nat.add_assoc, hy]
      have := vr_int hv
      rw [this, ← hu]
      simp
      omega
theorem sums_vr {d : List Nat} (hd : ∀ x ∈ d, x < 256) : VR S μ (.a (d.map fun x => .i .u8 (.ofNat x))) (.agg (idV (d.map UInt8.ofNat)).toArray) := by
  refine .a _ _ ?_
  induction d with
  | nil => exact .nil
  | cons x d ih =>
    have hx : x < 256 := hd x (by simp)
    refine .cons ?_ (ih fun y hy => hd y (by simp [hy]))
    have e : (((UInt8.ofNat x).toNat : Nat) : Int) = Int.ofNat x := by simp; omega
    show VR S μ (.i .u8 (.ofNat x)) (.int .u8 (((UInt8.ofNat x).toNat : Nat) : Int))
    rw [e]
    exact .i _ _
theorem sumAt_ok {tab : SumTab} (ht : TabOk tab) {cs : T V} {o len : Nat} {d : List Nat} (h : sumAt tab cs o len = some d) : ∃ p ∈ tab, len = p.1.length ∧ natsAt .u8 cs p.1 o = true ∧ d = p.2 := by
  induction tab with
  | nil => cases h
  | cons p tab ih =>
    replace h : (match Nat.beq len p.1.length && natsAt .u8 cs p.1 o with | true => some p.2 | false => sumAt tab cs o len) = some d := h
    split at h
    · rename_i hb
      simp only [Bool.and_eq_true] at hb
      injection h with h
      exact ⟨p, by simp, Nat.eq_of_beq_eq_true hb.1, hb.2, h.symm⟩
    · obtain ⟨q, hq, r⟩ := ih (fun q hq => ht q (by simp [hq])) h
      exact ⟨q, by simp [hq], r⟩
theorem rowIs_ok (r : RH 1024 S μ h w) {g : Nat} (hg : g < 1024) {k : IntKind} {l : List Nat} (hi : rowIs k l (h g) = true) (j x : Nat) (hx : l[j]? = some x) : w.cell? ⟨g, j, none⟩ = some (.int k (x : Int)) := by
  unfold rowIs at hi
  split at hi
  · rename_i cs len el fz ro hb
    obtain ⟨_, e1, e2⟩ := r.glob g hg
    obtain ⟨y, hy, _, hv⟩ := r.cell hb (natsAt_ok hi j x hx)
    rw [e1, e2, Nat.zero_add, Nat.zero_add] at hy
    rw [hy, vr_int hv]
    rfl
  · cases hi
theorem shaG_ok (r : RH 1024 S μ h w) (hi : rowIs .u32 firstN (h 2) = true) (hk : rowIs .u32 wordsN (h 3) = true) : ShaG w := by
  refine ⟨fun j hj => ?_, fun j hj => ?_⟩
  · have h1 : firstN[j]? = some ((st8 firstS).getD j 0).toNat := by
      have hl : j < (st8 firstS).length := hj
      unfold firstN
      rw [List.getElem?_map, List.getElem?_eq_getElem hl, List.getD_eq_getElem?_getD, List.getElem?_eq_getElem hl]
      rfl
    rw [rowIs_ok r (by decide) hi j _ h1, Int.toNat_of_nonneg]
    exact (show ∀ i : Fin 8, 0 ≤ (st8 firstS).getD i.val 0 by decide +kernel) ⟨j, hj⟩
  · have h1 : wordsN[j]? = some (keyS j).toNat := by
      have hl : j < keysS.length := hj
      unfold wordsN keyS
      rw [List.getElem?_map, List.getElem?_eq_getElem hl, List.getD_eq_getElem?_getD, List.getElem?_eq_getElem hl]
      rfl
    rw [rowIs_ok r (by decide) hk j _ h1, Int.toNat_of_nonneg (w32_key j).1]
theorem ascii_text {s : ByteArray} (hs : ∀ k, k < s.size → B s k < 128) : isText s = true := by
  have all : ∀ m pos, s.size - pos = m → (runesAt s pos).isSome = true := by
    intro m
    induction m with
    | zero => intro pos hm; rw [runesAt_end (by omega)]; rfl
    | succ m ih =>
      intro pos hm
      have hp : pos < s.size := by omega
      obtain ⟨e1, e2⟩ := dec1 (hs pos hp)
      rw [runesAt_ok hp e2, e1]
      have := ih (pos + 1) (by omega)
      cases hr : runesAt s (pos + 1) with
      | none => rw [hr] at this; cases this
      | some l => simp [hr]
  unfold isText
  rw [runesOf_eq]
  exact all _ 0 rfl
theorem asciiB_ok : ∀ {l : List Nat}, asciiB l = true → ∀ x ∈ l, x < 128 := by
  intro l
  induction l with
  | nil => intro _ x hx; cases hx
  | cons y l ih =>
    intro h x hx
    replace h : (match Nat.blt y 128 with | true => asciiB l | false => false) = true := h
    split at h
    · rename_i hb
      rcases List.mem_cons.1 hx with rfl | hx
      · exact blt_lt hb
      · exact ih h x hx
    · cases h
theorem bytesOf_B {l : List Nat} (hl : ∀ x ∈ l, x < 128) (k : Nat) (hk : k < (bytesOf l).size) : B (bytesOf l) k < 128 := by
  have hk' : k < l.length := by rw [bytesOf_size] at hk; exact hk
  have := Go.Proofs.YtmlhijlcefogmaaGreatDoor.getB (bytesOf l) k hk
  have e : ((bytesOf l)[k]'hk) = UInt8.ofNat l[k] := by
    show ((l.map UInt8.ofNat).toArray)[k]'(by simpa using hk') = _
    simp
  rw [e] at this
  have hx := hl l[k] (List.getElem_mem hk')
  have h2 : (UInt8.ofNat l[k]).toNat = l[k] := by simp; omega
  rw [h2] at this
  omega
end
theorem smT_ok {tab : SumTab} (ht : TabOk tab) : SumsOk Tryz.prog 1024 (smT tab) := by
  intro f g args H n v H' n' hf hg S μ w xs hv hr _
  have sv : ∀ {u : V} {y : Value}, VR S μ u y → sumV tab H n u = some (v, H', n') → H' = H ∧ n' = n ∧ ∃ (p : List Nat × List Nat) (A : Addr) (c : Nat), p ∈ tab ∧ (p.1.map UInt8.ofNat).length ≤ c ∧ y = .slice (some A) (p.1.map UInt8.ofNat).length c ∧ Sl w w.heap.size (some A) (p.1.map UInt8.ofNat).length 1 (idV (p.1.map UInt8.ofNat)) ∧ v = .a (p.2.map fun x => .i .u8 (.ofNat x)) := by
    intro u y hu he
    unfold sumV at he
    split at he
    case h_2 => cases he
    rename_i b o len cap z op
    split at he
    case h_2 => cases he
    rename_i cs l2 el fz ro hb
    split at he
    case h_2 => cases he
    rename_i d hd
    injection he with he
    injection he with e1 he
    injection he with e2 e3
    subst e1 e2 e3
    obtain ⟨p, hp, hl, hn, rfl⟩ := sumAt_ok ht hd
    obtain ⟨q1, q2, q3, q4⟩ := ht p hp
    cases hu with
    | s _ _ _ _ _ _ cap' hs hlc hcc he2 hsz =>
    have hlen : (p.1.map UInt8.ofNat).length = len := by rw [List.length_map, hl]
    exact ⟨rfl, rfl, p, _, cap', hp, by omega, by rw [hlen], hr.u8 hb q2 hn, rfl⟩
  unfold smT at hf
  split at hf
  · rename_i hfn
    have hfn := Nat.eq_of_beq_eq_true hfn
    subst hfn
    injection hf with hf
    subst hf
    unfold gSha at hg
    split at hg
    case h_2 => cases hg
    rename_i b o cap z op
    split at hg
    case h_2 => cases hg
    rename_i cs l2 el fz ro hb
    split at hg
    case h_2 => cases hg
    rename_i u hu hi
    simp only [Bool.and_eq_true] at hi
    cases hv with
    | cons h1 h2 =>
    cases h2
    cases h1 with
    | s _ _ _ _ _ _ cap' hs hlc hcc he2 hsz =>
    obtain ⟨y, hy, _, hvy⟩ := hr.cell hb hu
    obtain ⟨rfl, rfl, p, A, c, hp, hlc2, rfl, hsl, rfl⟩ := sv hvy hg
    obtain ⟨q1, q2, q3, q4⟩ := ht p hp
    have hbl : (μ b).blk < w.heap.size := by
      obtain ⟨_, x, hx, _⟩ := hr.ok b _ hb
      exact (Array.getElem?_eq_some_iff.1 hx).1
    refine (shaSum_any (p.1.map UInt8.ofNat) (some A) c (μ b).blk ((μ b).sh + o) cap' w hlc2 (by rw [List.length_map]; omega) hbl hy hsl (shaG_ok hr hi.1 hi.2)).mono fun e w' ⟨k1, k2⟩ => ?_
    obtain ⟨r1, r2⟩ := hr.below (n := n') k2
    exact ⟨_, k1, S, μ, by rw [q1]; exact sums_vr q3, r1, r2⟩
  · split at hf
    · rename_i hfn
      have hfn := Nat.eq_of_beq_eq_true hfn
      subst hfn
      injection hf with hf
      subst hf
      unfold gRef at hg
      split at hg
      case h_2 => cases hg
      rename_i u
      cases hv with
      | cons h1 h2 =>
      cases h2
      obtain ⟨rfl, rfl, p, A, c, hp, hlc2, rfl, hsl, rfl⟩ := sv h1 hg
      obtain ⟨q1, q2, q3, q4⟩ := ht p hp
      refine (refSum_any (p.1.map UInt8.ofNat) (some A) c w hsl (by rw [List.length_map]; omega)).mono fun e w' ⟨k1, k2⟩ => ?_
      obtain ⟨r1, r2⟩ := hr.below (n := n') k2
      exact ⟨_, k1, S, μ, by rw [q1]; exact sums_vr q3, r1, r2⟩
    · split at hf
      · rename_i hfn
        have hfn := Nat.eq_of_beq_eq_true hfn
        subst hfn
        injection hf with hf
        subst hf
        unfold gChk at hg
        split at hg
        case h_2 => cases hg
        rename_i l
        split at hg
        case h_2 => cases hg
        rename_i hi
        simp only [Bool.and_eq_true] at hi
        injection hg with hg
        injection hg with e1 hg
        injection hg with e2 e3
        subst e1 e2 e3
        cases hv with
        | cons h1 h2 =>
        cases h2
        cases h1 with
        | str _ hlt =>
        have hal := asciiB_ok hi.2
        have ht2 : isText (bytesOf l) = true := ascii_text (bytesOf_B hal)
        have hsz := Nat.le_of_ble_eq_true hi.1
        refine (check_any (bytesOf l) w (by rw [bytesOf_size]; unfold maxLen; omega)).mono fun e w' ⟨k1, k2⟩ => ?_
        subst k1
        rcases k2 with ⟨_, rfl⟩ | ⟨k3, _⟩
        · exact ⟨_, rfl, S, μ, .t _ _ (.cons (.i _ _) (.cons (.i _ _) .nil)), hr, Go.refl hr⟩
        · rw [ht2] at k3; cases k3
      · cases hf
end Ev
end Go.Proofs.YtmlhijlcefogmaaGreatDoor
namespace Go.Proofs.YtmlhijlcefogmaaGreatDoor
open Go.RowKit

/-- The next word, from those before (the last one first). -/
def nextW (l : List UInt8) (a t : Nat) (w : List Int) : Int :=
  if t < 16 then wordS (byteAt l (a + 4 * t)) (byteAt l (a + 4 * t + 1)) (byteAt l (a + 4 * t + 2)) (byteAt l (a + 4 * t + 3))
  else addS (addS (addS (xorS (xorS (rotS 17 (w.getD 1 0)) (rotS 19 (w.getD 1 0))) (w.getD 1 0 / 1024)) (w.getD 6 0)) (xorS (xorS (rotS 7 (w.getD 14 0)) (rotS 18 (w.getD 14 0))) (w.getD 14 0 / 8))) (w.getD 15 0)
def nextR (t : Nat) (x : Int) (p : St8 × List Int) : St8 × List Int := (stepS p.1 (keyS t) x, x :: p.2)
def runL (l : List UInt8) (a : Nat) (s : St8) : Nat → St8 × List Int
  | 0 => (s, [])
  | t + 1 => nextR t (nextW l a t (runL l a s t).2) (runL l a s t)
theorem runL_words (l : List UInt8) (a : Nat) (s : St8) : ∀ n, (∀ i, i < n → (runL l a s n).2.getD (n - 1 - i) 0 = schS l a i)
  | 0 => fun i h => by omega
  | n + 1 => fun i h => by
    have ih := runL_words l a s n
    have hn : nextW l a n (runL l a s n).2 = schS l a n := by
      unfold nextW
      by_cases h16 : n < 16
      · rw [if_pos h16, schS_lo h16]
      · rw [if_neg h16, schS_hi h16, ← ih (n - 2) (by omega), ← ih (n - 7) (by omega), ← ih (n - 15) (by omega), ← ih (n - 16) (by omega), show n - 1 - (n - 2) = 1 by omega, show n - 1 - (n - 7) = 6 by omega, show n - 1 - (n - 15) = 14 by omega, show n - 1 - (n - 16) = 15 by omega]
    unfold runL nextR
    rcases (by omega : i = n ∨ i < n) with rfl | hi
    · rw [show i + 1 - 1 - i = 0 by omega]; exact hn
    · rw [show n + 1 - 1 - i = (n - 1 - i) + 1 by omega, List.getD_cons_succ]; exact ih i hi
theorem runL_run (l : List UInt8) (a : Nat) (s : St8) : ∀ n, (runL l a s n).1 = runS l a s n
  | 0 => rfl
  | n + 1 => by
    have hn : nextW l a n (runL l a s n).2 = schS l a n := by
      have h := runL_words l a s (n + 1) n (by omega)
      rw [show n + 1 - 1 - n = 0 by omega] at h
      exact h
    unfold runL nextR runS
    dsimp only
    rw [hn, runL_run l a s n]
/-- The sum of what fits into one block. -/
theorem sha_one {l : List UInt8} (h : l.length < 56) : shaS l = outS (sumS (runL (padS l) 0 firstS 64).1 firstS) := by
  unfold shaS
  have h1 : (padS l).length / 64 = 1 := by rw [padS_length]; unfold zerosN; omega
  rw [h1, runL_run]
  rfl
end Go.Proofs.YtmlhijlcefogmaaGreatDoor
namespace Go.Proofs.YtmlhijlcefogmaaGreatDoor
namespace Ev
open Go.RowKit

noncomputable section
def tab18 : SumTab := [([67, 1, 0, 3, 65, 110, 110, 2, 3, 1, 97, 1, 0, 0, 0, 0, 5, 104, 101, 108, 108, 111], [217, 35, 125, 22, 221, 61, 85, 38, 40, 83, 100, 184, 192, 253, 104, 136, 152, 197, 1, 201, 222, 79, 22, 230, 99, 133, 133, 169, 14, 110, 238, 22])]
def rowN (l : List Nat) : T V := List.rec (motive := fun _ => Nat → T V → T V) (fun _ t => t) (fun x _ ih i t => ih (i + 1) (t.put i (some (.i .u32 (.ofNat x))))) l 0 .nil
def heap0 (t1 t2 : TypeId) : T O := ((T.nil : T O).put 2 (some (.row (rowN firstN) 8 t1 ⟨8, true, false⟩ true))).put 3 (some (.row (rowN wordsN) 64 t2 ⟨64, true, false⟩ true))
def ans18 : Option (V × T O × Nat) → Bool := fun r => match r with | some (.b true, _, n) => Nat.ble n 100000 | _ => false
end
theorem tab18_ok : TabOk tab18 := by
  intro p hp
  rcases List.mem_cons.1 hp with rfl | hp
  · refine ⟨?_, by decide +kernel, by decide +kernel, by decide +kernel⟩
    rw [sha_one (by decide)]
    decide +kernel
  · cases hp
theorem run18 (t1 t2 : TypeId) : ans18 (callF Tryz.prog (smT tab18) (dwF Tryz.prog (smT tab18) 100000 1000000 30) 100000 1000000 8 [] (heap0 t1 t2) 1024) = true := by kernel_rfl
theorem ans18_ok {r : Option (V × T O × Nat)} (h : ans18 r = true) : ∃ H n, r = some (.b true, H, n) ∧ n ≤ 100000 := by
  unfold ans18 at h
  split at h
  · exact ⟨_, _, rfl, Nat.le_of_ble_eq_true h⟩
  · cases h
theorem rowN_at (l : List Nat) : ∀ (i : Nat) (t : T V) (j : Nat), (List.rec (motive := fun _ => Nat → T V → T V) (fun _ t => t) (fun x _ ih i t => ih (i + 1) (t.put i (some (.i .u32 (.ofNat x))))) l i t : T V).at j = if i ≤ j ∧ j < i + l.length then (l[j - i]?).map (fun x => .i .u32 (.ofNat x)) else t.at j := by
  induction l with
  | nil => intro i t j; rw [if_neg (by simp only [List.length_nil]; omega)]
  | cons x l ih =>
    intro i t j
    show (List.rec (motive := fun _ => Nat → T V → T V) (fun _ t => t) (fun x _ ih i t => ih (i + 1) (t.put i (some (.i .u32 (.ofNat x))))) l (i + 1) (t.put i (some (.i .u32 (.ofNat x)))) : T V).at j = _
    rw [ih, T.at_put]
    by_cases h1 : j = i
    · subst h1
      rw [if_neg (by omega), if_pos rfl, if_pos ⟨Nat.le_refl _, by simp⟩]
      simp
    · rw [if_neg h1]
      by_cases h2 : i + 1 ≤ j ∧ j < i + 1 + l.length
      · rw [if_pos h2, if_pos ⟨by omega, by simp only [List.length_cons]; omega⟩, show j - i = (j - (i + 1)) + 1 by omega, List.getElem?_cons_succ]
      · rw [if_neg h2, if_neg (by simp only [List.length_cons]; omega)]
theorem tab_or {S : Nat → Prop} {μ : Nat → Loc} {w : World} {g : Nat} {zs : List Int} {l : List Nat} {el : TypeId} (hw : ∃ fr, w.heap[g]? = some (.cells (zs.map fun z => Value.int .u32 z).toArray el fr)) (hl : zs.map Int.toNat = l) (hz : ∀ z ∈ zs, 0 ≤ z) (n : Nat) (hn : zs.length = n) :
    ∃ x, w.heap[g]? = some x ∧ OR S μ ⟨g, 0, n⟩ x (.row (rowN l) n el ⟨n, true, false⟩ true) := by
  obtain ⟨fr, hx⟩ := hw
  refine ⟨_, hx, _, fr, rfl, by simp [hn], by simp, ⟨(fun h => (by cases h)), (fun h => (by cases h)), (fun o h1 h2 => (by simp at h1 h2; omega))⟩, fun i v hv => ?_⟩
  have h := rowN_at l 0 .nil i
  unfold rowN at hv
  rw [hv] at h
  have hll : l.length = n := by rw [← hl, List.length_map, hn]
  by_cases hi : i < n
  · rw [if_pos ⟨Nat.zero_le _, by omega⟩, Nat.sub_zero, ← hl, List.getElem?_map, List.getElem?_eq_getElem (by omega)] at h
    simp only [Option.map_some, Option.some.injEq] at h
    subst h
    refine ⟨hi, .int .u32 zs[i], by simp [hn ▸ hi], rfl, ?_⟩
    have h0 := hz zs[i] (List.getElem_mem _)
    have e : Int.ofNat zs[i].toNat = zs[i] := Int.toNat_of_nonneg h0
    rw [e]
    exact .i _ _
  · rw [if_neg (by omega), T.at_nil] at h
    cases h
theorem var_cells {P : Program} {w : World} {name : String} {g : Nat} {zs : List Int} (hg : P.globalNamed name = some g) (h : Lib.TabIs P w name .u32 zs) : ∃ T fr, w.heap[g]? = some (.cells (zs.map fun z => Value.int .u32 z).toArray T fr) := by
  unfold Lib.TabIs World.var? at h
  rw [hg] at h
  simp only [Option.bind_some] at h
  split at h
  · rename_i cs T fr hx
    injection h with h
    subst h
    exact ⟨T, fr, hx⟩
  · cases h
theorem heap0_at {t1 t2 : TypeId} (b : Nat) (o : O) (h : (heap0 t1 t2).at b = some o) : b = 2 ∧ o = .row (rowN firstN) 8 t1 ⟨8, true, false⟩ true ∨ b = 3 ∧ o = .row (rowN wordsN) 64 t2 ⟨64, true, false⟩ true := by
  unfold heap0 at h
  rw [T.at_put, T.at_put] at h
  split at h
  · injection h with h; exact .inr ⟨by assumption, h.symm⟩
  · split at h
    · injection h with h; exact .inl ⟨by assumption, h.symm⟩
    · rw [T.at_nil] at h; cases h
def μ0 (b : Nat) : Loc := ⟨b, 0, if b = 2 then 8 else 64⟩
theorem start_ok {w : World} (hF : Lib.TabIs Tryz.prog w "variorum/sha.first" .u32 (st8 firstS)) (hK : Lib.TabIs Tryz.prog w "variorum/sha.words" .u32 keysS) : ∃ t1 t2, RH 1024 (fun b => b < 1024) μ0 (heap0 t1 t2).at w := by
  obtain ⟨t1, hF⟩ := var_cells (g := 2) (by kernel_rfl) hF
  obtain ⟨t2, hK⟩ := var_cells (g := 3) (by kernel_rfl) hK
  refine ⟨t1, t2, ?_⟩
  refine ⟨fun b o h => ?_, fun b b' o o' _ _ h => h, fun g hg => ⟨hg, rfl, rfl⟩⟩
  rcases heap0_at b o h with ⟨rfl, rfl⟩ | ⟨rfl, rfl⟩
  · exact ⟨by decide, tab_or hF rfl (by decide +kernel) 8 rfl⟩
  · exact ⟨by decide, tab_or hK rfl (by decide +kernel) 64 rfl⟩
theorem awake18_any (w : World) (hF : Lib.TabIs Tryz.prog w "variorum/sha.first" .u32 (st8 firstS)) (hK : Lib.TabIs Tryz.prog w "variorum/sha.words" .u32 keysS) :
    Calls Tryz.prog 8 #[] w fun e w' => e = .returned (.bool true) ∧ Below w.heap.size w w' := by
  obtain ⟨t1, t2, hst⟩ := start_ok hF hK
  obtain ⟨H', n', he, hn⟩ := ans18_ok (run18 t1 t2)
  obtain ⟨m, hm⟩ := callF_ok he
  have hsm := smT_ok tab18_ok
  refine (callA_ok hsm (dwF_ok (by kernel_rfl) hsm 30) hm (S := fun b => b < 1024) (μ := μ0) (w := w) (xs := #[]) .nil hst (fun b h1 _ h2 => by omega)).mono fun e w' ⟨x, hx, S', μ', hv, _, hg⟩ => ?_
  cases hv
  refine ⟨hx, hg.os, hg.tape, hg.output, hg.size, fun k hk => hg.still k hk fun b o hb _ => ?_⟩
  rcases heap0_at b o hb with ⟨_, rfl⟩ | ⟨_, rfl⟩ <;> rfl
end Ev
end Go.Proofs.YtmlhijlcefogmaaGreatDoor
namespace Go.Proofs.YtmlhijlcefogmaaGreatDoor.scanLikes
open Go.RowKit Go.Maps Go.Shelf

theorem tab_keep {P : Program} {w w' : World} {name : String} {k : IntKind} {zs : List Int} {g : Nat} (hg : P.globalNamed name = some g) (h : Lib.TabIs P w name k zs) (hb : Below w.heap.size w w') : Lib.TabIs P w' name k zs := by
  unfold Lib.TabIs World.var? at h ⊢
  rw [hg] at h ⊢
  simp only [Option.bind_some] at h ⊢
  split at h
  · rename_i cs T fr hx
    rw [hb.block g (Array.getElem?_eq_some_iff.1 hx).1, hx]
    exact h
  · cases h
theorem walk (a b : ByteArray) (w : World) (ha : a.size ≤ maxLen) (hb : b.size ≤ maxLen) (hF : Lib.TabIs Tryz.prog w "variorum/sha.first" .u32 (st8 firstS)) (hK : Lib.TabIs Tryz.prog w "variorum/sha.words" .u32 keysS) :
    Calls Tryz.prog 3 #[.string a, .string b] w fun e w' => e = .returned (.bool true) ∧ Below w.heap.size w w' := by
  have hAW : ∀ u, Below w.heap.size w u → Calls Tryz.prog 8 #[] u fun e w' => e = .returned (.bool true) ∧ Below w.heap.size w w' := fun u hu =>
    (Ev.awake18_any u (tab_keep (g := 2) (by kernel_rfl) hF hu) (tab_keep (g := 3) (by kernel_rfl) hK hu)).mono fun e w' ⟨h1, h2⟩ => ⟨h1, hu.trans (h2.mono hu.size)⟩
  have HAW := Lib.hid hAW
  clear hF hK hAW
  by_cases h200 : a.size ≤ 200 ∧ b.size ≤ 200
  · obtain ⟨ha3, hb3⟩ := h200
    have n1 : ¬ (200 : Int) < (a.size : Int) := by omega
    have n2 : ¬ (200 : Int) < (b.size : Int) := by omega
    have HL1 := Lib.hid (fun u => like_any a b u (by omega) (by omega)); have HL2 := Lib.hid (fun u => rlike_any a b u (by omega) (by omega))
    clear ha hb ha3 hb3
    go_enter Tryz.func3, Tryz.ntmps3
    go_wp2_with (first
      | (go_at_call 6; refine (HL1.out _).mono ?_; rintro e W1 ⟨hb1, f1, rfl, hf1⟩; have HB1 := Lib.hid hb1; have HF1 := Lib.hid hf1; clear hb1 hf1)
      | (go_at_call 7; refine (HL2.out _).mono ?_; rintro e W2 ⟨hb2, f2, rfl, hf2⟩; have HB2 := Lib.hid (HB1.out.trans (hb2.mono HB1.out.size)); have HF2 := Lib.hid hf2; clear hb2 hf2)
      | (go_at_call 5; refine (rorder18 f1 f2 _ (like_same HF1.out HF2.out)).mono ?_; rintro e W5 ⟨rfl, rfl⟩)
      | (go_at_call 8; refine (HAW.out _ HB2.out).mono ?_; rintro e W7 ⟨rfl, hb7⟩; have HB7 := Lib.hid hb7; clear hb7))
    go_ret
    exact ⟨rfl, HB7.out⟩
  · have hor : (200 : Int) < (a.size : Int) ∨ (200 : Int) < (b.size : Int) := by omega
    by_cases h1 : (200 : Int) < (a.size : Int)
    · clear hor h200
      go_enter Tryz.func3, Tryz.ntmps3
      go_wp2
      go_ret
      exact ⟨rfl, Below.refl _ _⟩
    · have h2 := hor.resolve_left h1
      clear hor h200
      go_enter Tryz.func3, Tryz.ntmps3
      go_wp2
      go_ret
      exact ⟨rfl, Below.refl _ _⟩
end Go.Proofs.YtmlhijlcefogmaaGreatDoor.scanLikes
