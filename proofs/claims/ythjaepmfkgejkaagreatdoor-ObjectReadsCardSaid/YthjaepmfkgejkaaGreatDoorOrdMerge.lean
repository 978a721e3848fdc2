/-
  What order.merge gives for ids. Conditions: ids of 32 bytes; at most 2^40 of them.
-/
import Derived.Test.YthjaepmfkgejkaaGreatDoorOrdMergeS
import Derived.Test.YthjaepmfkgejkaaGreatDoorSliceH
import Derived.Test.YthjaepmfkgejkaaGreatDoorObjIds1
import Derived.Test.YthjaepmfkgejkaaGreatDoorOrdFind
namespace Go.Proofs.YthjaepmfkgejkaaGreatDoor
open Go.RowKit Go.Maps
set_option linter.unusedVariables false
set_option linter.unusedSimpArgs false

/-- 'append(s, l...)', s a row of the call's own, l any slice. -/
theorem wp_appL8 {P : Program} {ops : Array Oper} {rest : List Oper} {o : Oper} {a : Act} {w : World} {Q : Exit → Act → World → Prop} (hw : Region.wanted o (yielded ops a.tmps) = true) (s x : Operand) (t : TypeId)
    (ho : o.op = .call { callee := .builtin .append, args := #[s, x], argTypes := #[t, t] })
    (base : Nat) (e : TypeId) (z : Value) (size bytes : Nat) (ht : P.underlying t = some (.slice e)) (hinf : (P.info? e).map (fun i => (i.zero, i.size, i.bytes)) = some (some z, size, bytes))
    (hzs : z.cells.size = size) (hsz : 0 < size)
    (v : Value) (n : Nat) (xs : List Value) (hs : a.eval s = v) (hown : w.ownsRow base e size v n xs)
    (A : Option Addr) (m c B : Nat) (news : List Value) (hx : a.eval x = .slice A m c) (hsl : Sl w B A m size news) (h1 : ∀ u ∈ news, u.oneCell' = true)
    (h63 : n + m ≤ maxLen) (hbytes : (n + m) * bytes ≤ 140737488355328) (hbase : base ≤ w.heap.size)
    (h : ∀ v' w', w'.ownsRow base e size v' (n + m) (xs ++ news) → w.grownBy w' v.ownBlock → wpList P ops Q rest (a.put o.dst v') w') : wpList P ops Q (o :: rest) a w := by
  obtain ⟨i, hi, hz0, hz2, hz3⟩ := info_parts hinf
  refine BigFrame.wpList_want hw fun K hK => ?_
  exact wp_append_sl s x t ho base e i z size bytes ht hi hz0 hz2 hz3 hzs hsz v n xs hs hown A m c B news hx hsl h1 h63 hbytes hbase fun v' w' h2 h3 => hK _ _ (h v' w' h2 h3)
/-- Where the merging loop stands: what has come out, what is left of each half. -/
structure MgAt (w1 : World) (pa pb out ra rb : List (List UInt8)) (Aa : Option Addr) (na ca : Nat) (Ab : Option Addr) (nb cb : Nat) (Ao : Option Addr) (no co : Nat) (w : World) : Prop where
  mg : Mg pa pb out ra rb
  bel : Below w1.heap.size w1 w
  ena : ra.length = na
  enb : rb.length = nb
  eno : out.length = no
  sa : Sl w w1.heap.size Aa na 32 (idsV ra)
  lca : na ≤ ca
  sb : Sl w w1.heap.size Ab nb 32 (idsV rb)
  lcb : nb ≤ cb
  own : w.ownsRow w1.heap.size 47 32 (.slice Ao no co) no (idsV out)
  oka : IdsOk ra
  okb : IdsOk rb
  len : no + na + nb ≤ 1099511627776
theorem MgAt.swap {w1 w : World} {pa pb out ra rb : List (List UInt8)} {Aa Ab Ao : Option Addr} {na ca nb cb no co : Nat} (h : MgAt w1 pa pb out ra rb Aa na ca Ab nb cb Ao no co w) : MgAt w1 pb pa out rb ra Ab nb cb Aa na ca Ao no co w :=
  ⟨h.mg.swap, h.bel, h.enb, h.ena, h.eno, h.sb, h.lcb, h.sa, h.lca, h.own, h.okb, h.oka, by have := h.len; omega⟩
/-- One id moves from the first half to the end. -/
theorem MgAt.left {w1 w w9 : World} {pa pb out ra rb : List (List UInt8)} {Aa Ab Ao A' A9 : Option Addr} {na ca nb cb no co c9 : Nat} {x : List UInt8} (h : MgAt w1 pa pb out (x :: ra) rb Aa na ca Ab nb cb Ao no co w) (hc : ∀ y t, rb = y :: t → cmpB x y ≤ 0)
    (hb : Below w1.heap.size w w9) (ho : w9.ownsRow w1.heap.size 47 32 (.slice A9 (no + 1) c9) (no + 1) (idsV out ++ idV x)) (hs : Sl w9 w1.heap.size A' (na - 1) 32 (idsV ra)) : MgAt w1 pa pb (out ++ [x]) ra rb A' (na - 1) (ca - 1) Ab nb cb A9 (no + 1) c9 w9 := by
  have h1 := h.ena
  have h2 := h.lca
  have h3 := h.len
  have h4 := h.eno
  rw [List.length_cons] at h1
  refine ⟨h.mg.left hc, h.bel.trans hb, by omega, h.enb, by rw [List.length_append, h4]; rfl, hs, by omega, h.sb.keep hb, h.lcb, by rw [idsV_snoc]; exact ho, h.oka.tail, h.okb, by omega⟩
end Go.Proofs.YthjaepmfkgejkaaGreatDoor
