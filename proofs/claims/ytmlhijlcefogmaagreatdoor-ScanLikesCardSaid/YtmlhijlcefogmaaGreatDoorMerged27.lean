/-
  What leb.Put and leb.PutText give behind nothing. Conditions: a number below 2^63; a text of at most 2^40 bytes.
  What the reader's list reads, one by one. Conditions: what one reading does is handed in.
  What leb.GetId gives: an id's 32 bytes. Conditions: the place lies within the bytes.
  The writer's memory: bytes put one behind the other. Conditions: as each says.
  What reading one id does. Conditions: as IdsJ says.
  Merging two sorted lists of ids, and striking doubles out of a sorted one, step by step. No conditions; no program runs here.
  'x[:h]' as one step of a walk; what a part of a slice reads as. Over any program; conditions as each says.
  What order.merge gives for ids. Conditions: ids of 32 bytes; at most 2^40 of them.
-/
import Derived.Test.YtmlhijlcefogmaaGreatDoorMerged2
import Derived.Test.YtmlhijlcefogmaaGreatDoorMerged17
import Derived.Laws.OwnMore
import Derived.Deep.AppendSrc
import Derived.Laws.AppendOwnNone
import Derived.Lib.AppendStr
import Derived.Laws.CopyOwn
import Derived.Deep.RegionLaw
import Derived.Deep.CutRange
import Derived.Test.YtmlhijlcefogmaaGreatDoorMerged12
import Derived.Test.YtmlhijlcefogmaaGreatDoorMerged11
import Derived.Test.YtmlhijlcefogmaaGreatDoorMerged16
import Derived.Test.YtmlhijlcefogmaaGreatDoorMerged7
import Derived.Test.YtmlhijlcefogmaaGreatDoorMerged26
set_option linter.unusedVariables false
set_option linter.unusedSimpArgs false
namespace Go.Proofs.YtmlhijlcefogmaaGreatDoor
open Go.RowKit

theorem idV_app (a b : List UInt8) : idV (a ++ b) = idV a ++ idV b := by simp [idV]
theorem own_form' {w : World} {base : Nat} {e : TypeId} {sz : Nat} {v : Value} {n : Nat} {xs : List Value} (h : w.ownsRow base e sz v n xs) : ∃ A c, v = .slice A n c := by
  rcases h.2 with ⟨hv, hn⟩ | ⟨g, cap, cur, hv, _⟩
  · exact ⟨none, 0, by rw [hv, hn]⟩
  · exact ⟨_, _, hv⟩
end Go.Proofs.YtmlhijlcefogmaaGreatDoor
namespace Go.Proofs.YtmlhijlcefogmaaGreatDoor
open Go.RowKit Go.Maps

/-- What is left to read decides. -/
def LRest {α : Type} (p : Ps α) (l : List UInt8) (n k1 i a : Nat) (xs : List α) : Prop := pMany p n (l.drop k1) = (pMany p (n - i) (l.drop a)).map fun q => (xs ++ q.1, q.2)
theorem LRest.start {α : Type} (p : Ps α) (l : List UInt8) (n k1 : Nat) : LRest p l n k1 0 k1 [] := by
  unfold LRest
  rw [Nat.sub_zero]
  cases pMany p n (l.drop k1) <;> simp
theorem LRest.next {α : Type} {p : Ps α} {l : List UInt8} {n k1 i a a2 : Nat} {xs : List α} {x : α} (h : LRest p l n k1 i a xs) (hi : i < n) (hx : p (l.drop a) = some (x, l.drop a2)) : LRest p l n k1 (i + 1) a2 (xs ++ [x]) := by
  unfold LRest at h ⊢
  rw [h, show n - i = (n - (i + 1)) + 1 by omega]
  show Option.map _ (pBind p _ (l.drop a)) = _
  rw [pBind_at hx]
  unfold pBind
  rcases pMany p (n - (i + 1)) (l.drop a2) with _ | ⟨ys, r⟩
  · rfl
  · simp [pRet]
theorem LRest.fail {α : Type} {p : Ps α} {l : List UInt8} {n k1 i a : Nat} {xs : List α} (h : LRest p l n k1 i a xs) (hi : i < n) (hx : p (l.drop a) = none) : pMany p n (l.drop k1) = none := by
  unfold LRest at h
  rw [h, show n - i = (n - (i + 1)) + 1 by omega]
  show Option.map _ (pBind p _ (l.drop a)) = _
  unfold pBind
  rw [hx]
  rfl
theorem LRest.end {α : Type} {p : Ps α} {l : List UInt8} {n k1 i a : Nat} {xs : List α} (h : LRest p l n k1 i a xs) (hi : n ≤ i) : pMany p n (l.drop k1) = some (xs, l.drop a) := by
  unfold LRest at h
  rw [h, show n - i = 0 by omega]
  simp [pMany, pRet]
end Go.Proofs.YtmlhijlcefogmaaGreatDoor
namespace Go.Proofs.YtmlhijlcefogmaaGreatDoor
open Go.RowKit

end Go.Proofs.YtmlhijlcefogmaaGreatDoor
namespace Go.Proofs.YtmlhijlcefogmaaGreatDoor
open Go.RowKit Go.Maps

/-- What the writer has written. -/
def WrAt (w : World) (g : Nat) (xs : List UInt8) : Prop := ∃ v, w.heap[g]? = some (.cells #[v] 250 (0, 0)) ∧ w.ownsRow (g + 1) 5 1 v xs.length (idV xs)
/-- The blocks that it may write into. -/
def WrX (w : World) (g k : Nat) : Prop := k = g ∨ ∃ v T z, w.heap[g]? = some (.cells #[v] T z) ∧ v.ownBlock = some k
/-- From world to world by writing. -/
def WrGo (g : Nat) (w w' : World) : Prop := But (WrX w g) w w' ∧ ∀ i, i < w.heap.size → WrX w' g i → WrX w g i
section
variable {g : Nat} {xs ys : List UInt8} {w w' w1 w2 : World}
theorem WrAt.lt (h : WrAt w g xs) : g < w.heap.size := by
  obtain ⟨v, h1, _⟩ := h
  exact (qX h1)
theorem WrX.at_ {v : Value} {T : TypeId} {z : Nat × Nat} (h : w.heap[g]? = some (.cells #[v] T z)) {k : Nat} (hx : WrX w g k) : k = g ∨ v.ownBlock = some k := by
  rcases hx with q | ⟨v', T', z', h', q⟩
  · exact .inl q
  · rw [h] at h'
    injection h' with h'
    injection h' with h' _ _
    injection h' with h'
    injection h' with h' _
    subst h'
    exact .inr q
theorem WrAt.fresh (h : WrAt w g xs) {k : Nat} (hk : w.heap.size ≤ k) : ¬ WrX w g k := by
  have hlt := h.lt
  obtain ⟨v, h1, h2⟩ := h
  intro hx
  rcases hx.at_ h1 with q | q
  · omega
  · have := (h2.lt k q).2; omega
theorem WrGo.refl (g : Nat) (w : World) : WrGo g w w := ⟨But.refl _ _, fun _ _ h => h⟩
theorem WrGo.trans (h : WrGo g w w1) (k : WrGo g w1 w2) : WrGo g w w2 :=
  ⟨h.1.trans k.1 fun i hi hx => h.2 i hi hx, fun i hi hx => h.2 i hi (k.2 i (qL hi h.1.size) hx)⟩
theorem WrGo.below (hg : g < w.heap.size) (h : Below w.heap.size w w') : WrGo g w w' :=
  ⟨But.of_below h, fun i hi hx => by
    rcases hx with q | ⟨v, T, z, h1, q⟩
    · exact .inl q
    · exact .inr ⟨v, T, z, (h.block g hg).symm.trans h1, q⟩⟩
theorem WrAt.keep (h : WrAt w g xs) (hb : Below w.heap.size w w') : WrAt w' g xs := by
  have hlt := h.lt
  obtain ⟨v, h1, h2⟩ := h
  exact ⟨v, (hb.block g hlt).trans h1, (But.of_below (X := NoB) hb).own h2 fun _ _ q => q⟩
/-- What stands elsewhere stands. -/
theorem WrGo.apart (h : WrGo g w w') {k : Nat} (hk : k < w.heap.size) (hx : ¬ WrX w g k) : w'.heap[k]? = w.heap[k]? ∧ ¬ WrX w' g k := ⟨h.1.block k hk hx, fun q => hx (h.2 k hk q)⟩
theorem WrGo.cell (h : WrGo g w w') {k j : Nat} (hk : k < w.heap.size) (hx : ¬ WrX w g k) : w'.cell? ⟨k, j, none⟩ = w.cell? ⟨k, j, none⟩ := h.1.cell hk hx
/-- Bytes more: the world that only grew, the append, the store. -/
theorem WrAt.put {v v' : Value} (h1 : w.heap[g]? = some (.cells #[v] 250 (0, 0))) (h2 : w.ownsRow (g + 1) 5 1 v xs.length (idV xs)) (hb : Below w.heap.size w w1) (ho : w2.ownsRow (g + 1) 5 1 v' (xs.length + ys.length) (idV xs ++ idV ys))
    (hg : w1.grownBy w2 v.ownBlock) (hw : Where w1.heap.size v v') : w2.cell? ⟨g, 0, none⟩ = some v ∧ w2.frozen? ⟨g, 0, none⟩ = false ∧ WrAt (w2.setCell ⟨g, 0, none⟩ v') g (xs ++ ys) ∧ WrGo g w (w2.setCell ⟨g, 0, none⟩ v') := by
  have hlt := (qX h1)
  have hlt1 := qL hlt hb.size
  have hne : v.ownBlock ≠ some g := fun e => by have := (h2.lt g e).1; omega
  have hne' : v'.ownBlock ≠ some g := fun e => by have := (ho.lt g e).1; omega
  have hg2 : w2.heap[g]? = some (.cells #[v] 250 (0, 0)) := ((hg.block g hlt1 (fun e => hne e.symm)).trans (hb.block g hlt)).trans h1
  have hset : (w2.setCell ⟨g, 0, none⟩ v').heap[g]? = some (.cells #[v'] 250 (0, 0)) := by
    obtain ⟨hl2, he2⟩ := Array.getElem?_eq_some_iff.1 hg2
    simp [World.setCell, Array.getElem?_modify, hg2]
  refine ⟨?_, ?_, ⟨v', hset, ?_⟩, ?_, ?_⟩
  · simp [World.cell?, hg2]
  · simp [World.frozen?, hg2]
  · have hbut : But (fun k => k = g) w2 (w2.setCell ⟨g, 0, none⟩ v') := But.setCell (X := fun k => k = g) (But.refl _ _) (p := ⟨g, 0, none⟩) (fun _ => rfl) v'
    have := hbut.own ho fun k hk e => hne' (by rw [hk, e])
    rw [List.length_append, idV_app]
    exact this
  · refine But.setCell (But.grown (But.of_below hb) hg fun k hk _ => .inr ⟨v, _, _, h1, hk⟩) (fun _ => .inl rfl) v'
  · intro i hi hx
    rcases hx.at_ hset with q | q
    · exact .inl q
    · rcases hw with e | ⟨k, e, hk⟩
      · exact .inr ⟨v, _, _, h1, by rw [← e]; exact q⟩
      · rw [e] at q
        injection q with q
        have := hb.size
        omega
end
end Go.Proofs.YtmlhijlcefogmaaGreatDoor
namespace Go.Proofs.YtmlhijlcefogmaaGreatDoor
open Go.RowKit Go.Maps

theorem own_not {w : World} {base n sz k : Nat} {e T : TypeId} {v : Value} {xs : List Value} {cs : List Value} (h : w.ownsRow base e sz v n xs) (hk : w.heap[k]? = some (.cells cs.toArray T (0, 0))) (hne : e ≠ T) : v.ownBlock ≠ some k := by
  intro hv
  rcases h.2 with ⟨h0, _⟩ | ⟨g, cap, cur, h0, _, hh, _⟩
  · rw [h0] at hv; cases hv
  · rw [h0] at hv
    have : g = k := by simpa [Value.ownBlock] using hv
    subst this
    rw [hk] at hh
    injection hh with hh
    injection hh with _ hh _
    exact hne hh.symm
theorem idsV_snoc (xs : List (List UInt8)) (i : List UInt8) : idsV (xs ++ [i]) = idsV xs ++ idV i := by simp [idsV]

end Go.Proofs.YtmlhijlcefogmaaGreatDoor
namespace Go.Proofs.YtmlhijlcefogmaaGreatDoor

/-- Ids that rise, each as often as it stands there. -/
def SortedL (l : List (List UInt8)) : Prop := l.Pairwise fun a b => cmpB a b ≤ 0
theorem idLe_trans {a b c : List UInt8} (h1 : cmpB a b ≤ 0) (h2 : cmpB b c ≤ 0) : cmpB a c ≤ 0 := by
  rcases (by omega : cmpB a b < 0 ∨ cmpB a b = 0) with q | q
  · rcases (by omega : cmpB b c < 0 ∨ cmpB b c = 0) with r | r
    · have := cmpB_trans q r; omega
    · rw [← cmpB_zero.1 r]; exact h1
  · rw [cmpB_zero.1 q]; exact h2
/-- Where merging stands: what has come out, what is left of each. -/
structure Mg (a b out ra rb : List (List UInt8)) : Prop where
  perm : (out ++ ra ++ rb).Perm (a ++ b)
  sorted : SortedL out
  le : ∀ x ∈ out, ∀ y ∈ ra ++ rb, cmpB x y ≤ 0
  sra : SortedL ra
  srb : SortedL rb
theorem Mg.start {a b : List (List UInt8)} (ha : SortedL a) (hb : SortedL b) : Mg a b [] a b := ⟨List.Perm.refl _, List.Pairwise.nil, fun x hx => absurd hx (by simp), ha, hb⟩
section
variable {a b out ra rb : List (List UInt8)} {x : List UInt8}
theorem Mg.left (h : Mg a b out (x :: ra) rb) (hc : ∀ y t, rb = y :: t → cmpB x y ≤ 0) : Mg a b (out ++ [x]) ra rb := by
  have hs := List.pairwise_cons.1 h.sra
  refine ⟨by rw [show out ++ [x] ++ ra ++ rb = out ++ (x :: ra) ++ rb by simp]; exact h.perm, List.pairwise_append.2 ⟨h.sorted, List.pairwise_singleton _ _, fun p hp q hq => ?_⟩, fun p hp q hq => ?_, hs.2, h.srb⟩
  · obtain rfl : q = x := by simpa using hq
    exact h.le p hp _ (by simp)
  · rcases List.mem_append.1 hp with hp | hp
    · refine h.le p hp q ?_
      rcases List.mem_append.1 hq with hq | hq
      · simp [hq]
      · simp [hq]
    · obtain rfl : p = x := by simpa using hp
      rcases List.mem_append.1 hq with hq | hq
      · exact hs.1 q hq
      · cases rb with
        | nil => cases hq
        | cons y t =>
          have h1 := hc y t rfl
          rcases List.mem_cons.1 hq with rfl | hq
          · exact h1
          · exact idLe_trans h1 ((List.pairwise_cons.1 h.srb).1 q hq)
theorem Mg.swap (h : Mg a b out ra rb) : Mg b a out rb ra :=
  ⟨by
    rw [List.append_assoc]
    refine (List.Perm.append_left out List.perm_append_comm).trans ?_
    rw [← List.append_assoc]
    exact h.perm.trans List.perm_append_comm, h.sorted, fun p hp q hq => h.le p hp q (by simp only [List.mem_append] at hq ⊢; exact hq.symm), h.srb, h.sra⟩
theorem Mg.right (h : Mg a b out ra (x :: rb)) (hc : ∀ y t, ra = y :: t → cmpB x y ≤ 0) : Mg a b (out ++ [x]) ra rb := (h.swap.left hc).swap
theorem Mg.done (h : Mg a b out ra rb) (he : ra = [] ∨ rb = []) : SortedL (out ++ ra ++ rb) ∧ (out ++ ra ++ rb).Perm (a ++ b) := by
  refine ⟨?_, h.perm⟩
  rw [List.append_assoc]
  refine List.pairwise_append.2 ⟨h.sorted, ?_, h.le⟩
  rcases he with rfl | rfl
  · exact h.srb
  · rw [List.append_nil]; exact h.sra
end
/-- Where striking out stands. -/
structure Dd (s out : List (List UInt8)) (k : Nat) : Prop where
  set : out.Pairwise fun a b => cmpB a b < 0
  mem : ∀ x, x ∈ out ↔ x ∈ s.take k
theorem Dd.start (s : List (List UInt8)) : Dd s [] 0 := ⟨List.Pairwise.nil, fun x => by simp⟩
section
variable {s out : List (List UInt8)} {k : Nat}
theorem Dd.add (h : Dd s out k) (hs : SortedL s) (hk : k < s.length) (hn : ∀ ho : 0 < out.length, out[out.length - 1] ≠ s[k]) : Dd s (out ++ [s[k]]) (k + 1) := by
  refine ⟨List.pairwise_append.2 ⟨h.set, List.pairwise_singleton _ _, fun x hx y hy => ?_⟩, fun x => ?_⟩
  · obtain rfl : y = s[k] := by simpa using hy
    obtain ⟨q, hq, rfl⟩ := List.getElem_of_mem hx
    have ho : 0 < out.length := by omega
    have hl : out[out.length - 1] ∈ s.take k := (h.mem _).1 (List.getElem_mem _)
    obtain ⟨p, hp, ep⟩ := List.getElem_of_mem hl
    rw [List.length_take] at hp
    rw [List.getElem_take] at ep
    have h1 : cmpB out[out.length - 1] s[k] ≤ 0 := by
      rw [← ep]
      exact (List.pairwise_iff_getElem.1 hs) p k (by omega) hk (by omega)
    have h2 : cmpB out[out.length - 1] s[k] ≠ 0 := fun e => hn ho (cmpB_zero.1 e)
    rcases (by omega : q = out.length - 1 ∨ q < out.length - 1) with r | r
    · subst r; omega
    · exact cmpB_trans ((List.pairwise_iff_getElem.1 h.set) q (out.length - 1) hq (by omega) r) (by omega)
  · rw [List.take_succ_eq_append_getElem hk, List.mem_append, List.mem_append, h.mem]
theorem Dd.skip (h : Dd s out k) (hk : k < s.length) (ho : 0 < out.length) (he : out[out.length - 1] = s[k]) : Dd s out (k + 1) := by
  refine ⟨h.set, fun x => ?_⟩
  rw [List.take_succ_eq_append_getElem hk, List.mem_append, ← h.mem]
  constructor
  · exact .inl
  · rintro (q | q)
    · exact q
    · obtain rfl : x = s[k] := by simpa using q
      rw [← he]; exact List.getElem_mem _
theorem Dd.done (h : Dd s out k) (hk : s.length ≤ k) : isSetB out = true ∧ ∀ x, x ∈ out ↔ x ∈ s := ⟨isSetB_of_pair h.set, fun x => by rw [h.mem, List.take_of_length_le hk]⟩
end
end Go.Proofs.YtmlhijlcefogmaaGreatDoor
namespace Go.Proofs.YtmlhijlcefogmaaGreatDoor
open Go.RowKit

section
variable {P : Program} {ρ : Operand → Value} {o : Oper} {w : World}
end
section
variable {w : World} {B n c sz : Nat} {A : Option Addr} {xs : List Value}
end
end Go.Proofs.YtmlhijlcefogmaaGreatDoor
namespace Go.Proofs.YtmlhijlcefogmaaGreatDoor
open Go.RowKit Go.Maps

/-- 'append(s, l...)', s a row of the call's own, l any slice. -/
theorem wp_appL8 {P : Program} {ops : Array Oper} {rest : List Oper} {o : Oper} {a : Act} {w : World} {Q : Exit → Act → World → Prop} (hw : Region.wanted o (yielded ops a.tmps) = true) (s x : Operand) (t : TypeId)
    (ho : o.op = .call { callee := .builtin .append, args := #[s, x], argTypes := #[t, t] })
    (base : Nat) (e : TypeId) (z : Value) (size bytes : Nat) (ht : P.underlying t = some (.slice e)) (hinf : (P.info? e).map (fun i => (i.zero, i.size, i.bytes)) = some (some z, size, bytes))
    (hzs : z.cells.size = size) (hsz : 0 < size)
    (v : Value) (n : Nat) (xs : List Value) (hs : a.eval s = v) (hown : w.ownsRow base e size v n xs)
    (A : Option Addr) (m c B : Nat) (news : List Value) (hx : a.eval x = .slice A m c) (hsl : Sl w B A m size news) (h1 : ∀ u ∈ news, u.oneCell' = true)
    (h63 : n + m ≤ maxLen) (hbytes : (n + m) * bytes ≤ 140737488355328) (hbase : base ≤ w.heap.size)
    (h : ∀ v' w', w'.ownsRow base e size v' (n + m) (xs ++ news) → w.grownBy w' v.ownBlock → wpList P ops Q rest (a.put o.dst v') w') : wpList P ops Q (o :: rest) a w := by
  obtain ⟨i, hi, hz0, hz2, hz3⟩ := info_parts hinf
  refine BigFrame.wpList_want hw fun K hK => ?_
  exact wp_append_sl s x t ho base e i z size bytes ht hi hz0 hz2 hz3 hzs hsz v n xs hs hown A m c B news hx hsl h1 h63 hbytes hbase fun v' w' h2 h3 => hK _ _ (h v' w' h2 h3)
theorem own_cap8 {w : World} {base n sz : Nat} {e : TypeId} {A : Option Addr} {m c : Nat} {xs : List Value} (h : w.ownsRow base e sz (.slice A m c) n xs) : n ≤ c := by
  rcases h.2 with ⟨hv, hn⟩ | ⟨g, cap, cur, hv, _, _, hle, _⟩
  · omega
  · injection hv with _ _ h3
    omega
/-- Where the merging loop stands: what has come out, what is left of each half. -/
structure MgAt (w1 : World) (pa pb out ra rb : List (List UInt8)) (Aa : Option Addr) (na ca : Nat) (Ab : Option Addr) (nb cb : Nat) (Ao : Option Addr) (no co : Nat) (w : World) : Prop where
  mg : Mg pa pb out ra rb
  bel : Below w1.heap.size w1 w
  ena : ra.length = na
  enb : rb.length = nb
  eno : out.length = no
  sa : Sl w w1.heap.size Aa na 32 (idsV ra)
  lca : na ≤ ca
  sb : Sl w w1.heap.size Ab nb 32 (idsV rb)
  lcb : nb ≤ cb
  own : w.ownsRow w1.heap.size 50 32 (.slice Ao no co) no (idsV out)
  oka : IdsOk ra
  okb : IdsOk rb
  len : no + na + nb ≤ 1099511627776
theorem MgAt.swap {w1 w : World} {pa pb out ra rb : List (List UInt8)} {Aa Ab Ao : Option Addr} {na ca nb cb no co : Nat} (h : MgAt w1 pa pb out ra rb Aa na ca Ab nb cb Ao no co w) : MgAt w1 pb pa out rb ra Ab nb cb Aa na ca Ao no co w :=
  ⟨h.mg.swap, h.bel, h.enb, h.ena, h.eno, h.sb, h.lcb, h.sa, h.lca, h.own, h.okb, h.oka, by have := h.len; omega⟩
/-- One id moves from the first half to the end. -/
theorem MgAt.left {w1 w w9 : World} {pa pb out ra rb : List (List UInt8)} {Aa Ab Ao A' A9 : Option Addr} {na ca nb cb no co c9 : Nat} {x : List UInt8} (h : MgAt w1 pa pb out (x :: ra) rb Aa na ca Ab nb cb Ao no co w) (hc : ∀ y t, rb = y :: t → cmpB x y ≤ 0)
    (hb : Below w1.heap.size w w9) (ho : w9.ownsRow w1.heap.size 50 32 (.slice A9 (no + 1) c9) (no + 1) (idsV out ++ idV x)) (hs : Sl w9 w1.heap.size A' (na - 1) 32 (idsV ra)) : MgAt w1 pa pb (out ++ [x]) ra rb A' (na - 1) (ca - 1) Ab nb cb A9 (no + 1) c9 w9 := by
  have h1 := h.ena
  have h2 := h.lca
  have h3 := h.len
  have h4 := h.eno
  rw [List.length_cons] at h1
  refine ⟨h.mg.left hc, h.bel.trans hb, by omega, h.enb, by rw [List.length_append, h4]; rfl, hs, by omega, h.sb.keep hb, h.lcb, by rw [idsV_snoc]; exact ho, h.oka.tail, h.okb, by omega⟩
end Go.Proofs.YtmlhijlcefogmaaGreatDoor
