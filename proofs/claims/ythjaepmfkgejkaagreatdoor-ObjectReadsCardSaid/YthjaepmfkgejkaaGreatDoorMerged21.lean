/-
  Merging two sorted lists of ids, and striking doubles out of a sorted one, step by step. No conditions; no program runs here.
  'x[:h]' as one step of a walk; what a part of a slice reads as. Over any program; conditions as each says.
  What order.merge gives for ids. Conditions: ids of 32 bytes; at most 2^40 of them.
  The document's Number and Text give a number's and a text's bytes. Conditions: numbers not below 0.
  What the program's order of keys gives. Conditions: the keys are well formed.
  What the document's order of ids gives. Conditions: ids of 32 bytes.
-/
import Derived.Test.YthjaepmfkgejkaaGreatDoorMerged2
import Derived.Test.YthjaepmfkgejkaaGreatDoorMerged11
import Derived.Test.YthjaepmfkgejkaaGreatDoorObjIds1
import Derived.Test.YthjaepmfkgejkaaGreatDoorMerged10
import Derived.Test.YthjaepmfkgejkaaGreatDoorMerged8
import Derived.Test.YthjaepmfkgejkaaGreatDoorMerged3
import Derived.Test.YthjaepmfkgejkaaGreatDoorMerged6
import Derived.Deep.MidRow
set_option linter.unusedVariables false
set_option linter.unusedSimpArgs false
set_option maxHeartbeats 4000000
set_option maxRecDepth 100000
namespace Go.Proofs.YthjaepmfkgejkaaGreatDoor
def Zm (l : List (List UInt8)) : Prop := l.Pairwise fun a b => jJ a b ≤ 0
theorem idLe_trans {a b c : List UInt8} (h1 : jJ a b ≤ 0) (h2 : jJ b c ≤ 0) : jJ a c ≤ 0 := by
  rcases (by omega : jJ a b < 0 ∨ jJ a b = 0) with q | q
  · rcases (by omega : jJ b c < 0 ∨ jJ b c = 0) with r | r
    · have := KD q r; omega
    · rw [← Kj.1 r]; exact h1
  · rw [Kj.1 q]; exact h2
structure Mg (a b out ra rb : List (List UInt8)) : Prop where
  perm : (out ++ ra ++ rb).Perm (a ++ b)
  sorted : Zm out
  le : ∀ x ∈ out, ∀ y ∈ ra ++ rb, jJ x y ≤ 0
  sra : Zm ra
  srb : Zm rb
theorem Mg.start {a b : List (List UInt8)} (ha : Zm a) (hb : Zm b) : Mg a b [] a b := ⟨List.Perm.refl _, List.Pairwise.nil, fun x hx => absurd hx (by simp), ha, hb⟩
section
variable {a b out ra rb : List (List UInt8)} {x : List UInt8}
theorem Mg.left (h : Mg a b out (x :: ra) rb) (hc : ∀ y t, rb = y :: t → jJ x y ≤ 0) : Mg a b (out ++ [x]) ra rb := by
  have hs := List.pairwise_cons.1 h.sra
  refine ⟨by rw [show out ++ [x] ++ ra ++ rb = out ++ (x :: ra) ++ rb by simp]; exact h.perm, List.pairwise_append.2 ⟨h.sorted, List.pairwise_singleton _ _, fun p hp q hq => ?_⟩, fun p hp q hq => ?_, hs.2, h.srb⟩
  · obtain rfl : q = x := by simpa using hq
    exact h.le p hp _ (by simp)
  ·
   rcases List.mem_append.1 hp with hp | hp
   ·
    refine h.le p hp q ?_
    rcases List.mem_append.1 hq with hq | hq
    · simp [hq]
    · simp [hq]
   ·
    obtain rfl : p = x := by simpa using hp
    rcases List.mem_append.1 hq with hq | hq
    · exact hs.1 q hq
    ·
     cases rb with
     | nil => cases hq
     | cons y t =>
       have h1 := hc y t rfl
       rcases List.mem_cons.1 hq with rfl | hq
       · exact h1
       · exact idLe_trans h1 ((List.pairwise_cons.1 h.srb).1 q hq)
theorem Mg.swap (h : Mg a b out ra rb) : Mg b a out rb ra :=
  ⟨by
    rw [List.append_assoc]
    refine (List.Perm.append_left out List.perm_append_comm).trans ?_
    rw [← List.append_assoc]
    exact h.perm.trans List.perm_append_comm, h.sorted, fun p hp q hq => h.le p hp q (by simp only [List.mem_append] at hq ⊢; exact hq.symm), h.srb, h.sra⟩
theorem Mg.right (h : Mg a b out ra (x :: rb)) (hc : ∀ y t, ra = y :: t → jJ x y ≤ 0) : Mg a b (out ++ [x]) ra rb := (h.swap.left hc).swap
theorem Mg.done (h : Mg a b out ra rb) (he : ra = [] ∨ rb = []) : Zm (out ++ ra ++ rb) ∧ (out ++ ra ++ rb).Perm (a ++ b) := by
  refine ⟨?_, h.perm⟩
  rw [List.append_assoc]
  refine List.pairwise_append.2 ⟨h.sorted, ?_, h.le⟩
  rcases he with rfl | rfl
  · exact h.srb
  · rw [List.append_nil]; exact h.sra
end
structure Dd (s out : List (List UInt8)) (k : Nat) : Prop where
  set : out.Pairwise fun a b => jJ a b < 0
  mem : ∀ x, x ∈ out ↔ x ∈ s.take k
theorem Dd.start (s : List (List UInt8)) : Dd s [] 0 := ⟨List.Pairwise.nil, fun x => by simp⟩
section
variable {s out : List (List UInt8)} {k : Nat}
theorem Dd.add (h : Dd s out k) (hs : Zm s) (hk : k < s.length) (hn : ∀ ho : 0 < out.length, out[out.length - 1] ≠ s[k]) : Dd s (out ++ [s[k]]) (k + 1) := by
  refine ⟨List.pairwise_append.2 ⟨h.set, List.pairwise_singleton _ _, fun x hx y hy => ?_⟩, fun x => ?_⟩
  ·
   obtain rfl : y = s[k] := by simpa using hy
   obtain ⟨q, hq, rfl⟩ := List.getElem_of_mem hx
   have ho : 0 < out.length := by omega
   have hl : out[out.length - 1] ∈ s.take k := (h.mem _).1 (List.getElem_mem _)
   obtain ⟨p, hp, ep⟩ := List.getElem_of_mem hl
   rw [List.length_take] at hp
   rw [List.getElem_take] at ep
   have h1 : jJ out[out.length - 1] s[k] ≤ 0 := by
     rw [← ep]
     exact (List.pairwise_iff_getElem.1 hs) p k (by omega) hk (by omega)
   have h2 : jJ out[out.length - 1] s[k] ≠ 0 := fun e => hn ho (Kj.1 e)
   rcases (by omega : q = out.length - 1 ∨ q < out.length - 1) with r | r
   · subst r; omega
   · exact KD ((List.pairwise_iff_getElem.1 h.set) q (out.length - 1) hq (by omega) r) (by omega)
  · rw [List.take_succ_eq_append_getElem hk, List.mem_append, List.mem_append, h.mem]
theorem Dd.skip (h : Dd s out k) (hk : k < s.length) (ho : 0 < out.length) (he : out[out.length - 1] = s[k]) : Dd s out (k + 1) := by
  refine ⟨h.set, fun x => ?_⟩
  rw [List.take_succ_eq_append_getElem hk, List.mem_append, ← h.mem]
  constructor
  · exact .inl
  ·
   rintro (q | q)
   · exact q
   · obtain rfl : x = s[k] := by simpa using q
     rw [← he]; exact List.getElem_mem _
theorem Dd.done (h : Dd s out k) (hk : s.length ≤ k) : kY out = true ∧ ∀ x, x ∈ out ↔ x ∈ s := ⟨uL h.set, fun x => by rw [h.mem, List.take_of_length_le hk]⟩
end
end Go.Proofs.YthjaepmfkgejkaaGreatDoor
namespace Go.Proofs.YthjaepmfkgejkaaGreatDoor
open Go.RowKit
section
variable {P : Program} {ρ : Operand → Value} {o : Oper} {w : World}
end
section
variable {w : World} {B n c sz : Nat} {A : Option Addr} {xs : List Value}
end
end Go.Proofs.YthjaepmfkgejkaaGreatDoor
namespace Go.Proofs.YthjaepmfkgejkaaGreatDoor
open Go.RowKit Go.Maps
theorem jR {P : Program} {ops : Array Oper} {rest : List Oper} {o : Oper} {a : Act} {w : World} {Q : Exit → Act → World → Prop} (hw : Region.wanted o (yielded ops a.tmps) = true) (s x : Operand) (t : TypeId)
    (ho : o.op = .call { callee := .builtin .append, args := #[s, x], argTypes := #[t, t] })
    (base : Nat) (e : TypeId) (z : Value) (size bytes : Nat) (ht : P.underlying t = some (.slice e)) (hinf : (P.info? e).map (fun i => (i.zero, i.size, i.bytes)) = some (some z, size, bytes))
    (hzs : z.cells.size = size) (hsz : 0 < size)
    (v : Value) (n : Nat) (xs : List Value) (hs : a.eval s = v) (hown : w.ownsRow base e size v n xs)
    (A : Option Addr) (m c B : Nat) (news : List Value) (hx : a.eval x = .slice A m c) (hsl : Sl w B A m size news) (h1 : ∀ u ∈ news, u.oneCell' = true)
    (h63 : n + m ≤ maxLen) (hbytes : (n + m) * bytes ≤ 140737488355328) (hbase : base ≤ w.heap.size)
    (h : ∀ v' w', w'.ownsRow base e size v' (n + m) (xs ++ news) → w.grownBy w' v.ownBlock → wpList P ops Q rest (a.put o.dst v') w') : wpList P ops Q (o :: rest) a w := by
  obtain ⟨i, hi, hz0, hz2, hz3⟩ := info_parts hinf
  refine BigFrame.wpList_want hw fun K hK => ?_
  exact vK s x t ho base e i z size bytes ht hi hz0 hz2 hz3 hzs hsz v n xs hs hown A m c B news hx hsl h1 h63 hbytes hbase fun v' w' h2 h3 => hK _ _ (h v' w' h2 h3)
structure MgAt (w1 : World) (pa pb out ra rb : List (List UInt8)) (Aa : Option Addr) (na ca : Nat) (Ab : Option Addr) (nb cb : Nat) (Ao : Option Addr) (no co : Nat) (w : World) : Prop where
  mg : Mg pa pb out ra rb
  bel : Below w1.heap.size w1 w
  ena : ra.length = na
  enb : rb.length = nb
  eno : out.length = no
  sa : Sl w w1.heap.size Aa na 32 (jf ra)
  lca : na ≤ ca
  sb : Sl w w1.heap.size Ab nb 32 (jf rb)
  lcb : nb ≤ cb
  own : w.ownsRow w1.heap.size 47 32 (.slice Ao no co) no (jf out)
  oka : IdsOk ra
  okb : IdsOk rb
  len : no + na + nb ≤ 1099511627776
theorem MgAt.swap {w1 w : World} {pa pb out ra rb : List (List UInt8)} {Aa Ab Ao : Option Addr} {na ca nb cb no co : Nat} (h : MgAt w1 pa pb out ra rb Aa na ca Ab nb cb Ao no co w) : MgAt w1 pb pa out rb ra Ab nb cb Aa na ca Ao no co w :=
  ⟨h.mg.swap, h.bel, h.enb, h.ena, h.eno, h.sb, h.lcb, h.sa, h.lca, h.own, h.okb, h.oka, by have := h.len; omega⟩
theorem MgAt.left {w1 w w9 : World} {pa pb out ra rb : List (List UInt8)} {Aa Ab Ao A' A9 : Option Addr} {na ca nb cb no co c9 : Nat} {x : List UInt8} (h : MgAt w1 pa pb out (x :: ra) rb Aa na ca Ab nb cb Ao no co w) (hc : ∀ y t, rb = y :: t → jJ x y ≤ 0)
    (hb : Below w1.heap.size w w9) (ho : w9.ownsRow w1.heap.size 47 32 (.slice A9 (no + 1) c9) (no + 1) (jf out ++ idV x)) (hs : Sl w9 w1.heap.size A' (na - 1) 32 (jf ra)) : MgAt w1 pa pb (out ++ [x]) ra rb A' (na - 1) (ca - 1) Ab nb cb A9 (no + 1) c9 w9 := by
  have h1 := h.ena
  have h2 := h.lca
  have h3 := h.len
  have h4 := h.eno
  rw [List.length_cons] at h1
  refine ⟨h.mg.left hc, h.bel.trans hb, by omega, h.enb, by rw [List.length_append, h4]; rfl, hs, by omega, h.sb.keep hb, h.lcb, by rw [ue]; exact ho, h.oka.tail, h.okb, by omega⟩
end Go.Proofs.YthjaepmfkgejkaaGreatDoor
namespace Go.Proofs.YthjaepmfkgejkaaGreatDoor
open Lib (hid)
open Go.RowKit Go.Maps
def JI (l : List UInt8) (w : World) (e : Ending) (w' : World) : Prop := Below w.heap.size w w' ∧ ∃ A c, e = .returned (.slice A l.length c) ∧ w'.ownsRow w.heap.size 5 1 (.slice A l.length c) l.length (idV l)
theorem zD (n : Nat) (hn : n < 9223372036854775808) (w : World) : Calls Tryz.prog 64 #[.int .i64 (n : Int)] w (JI (kZ n) w) := by
  have H10 := hid (je (n := n) (by omega))
  go_enter Tryz.func64, Tryz.ntmps64
  go_wp2_with fail
  go_loopw [0, 3] (fun t0 t3 wr => ∃ (m : Nat) (pre : List UInt8) (A0 : Option Addr) (c0 : Nat), t0 = .int .i64 (m : Int) ∧ t3 = .slice A0 pre.length c0 ∧ m < 9223372036854775808 ∧ pre.length ≤ 10 ∧ Hid (kZ n = pre ++ kZ m) ∧ Hid (wr.ownsRow w.heap.size 5 1 (.slice A0 pre.length c0) pre.length (idV pre)) ∧ Hid (Below w.heap.size w wr)) (fun t0 _ _ => (intOf t0).toNat)
  case atStart => exact ⟨n, [], none, 0, rfl, rfl, hn, by simp, hid rfl, hid (World.ownsRow_nil _ _ _ _), hid (Below.refl _ _)⟩
  case round =>
    obtain ⟨m, pre, A0, c0, rfl, rfl, hm, hpl, HP, HOWN, HBR⟩ := hrel
    have hpl2 : pre.length + (kZ m).length ≤ 10 := by
      have := H10.out
      rw [HP.out, List.length_append] at this
      exact this
    have hpos := vx m
    by_cases h128 : m < 128
    ·
     have HSM := hid (Jy h128)
     have i1 : ¬ (128 : Int) ≤ (m : Int) := by omega
     go_wp2_with (at_builtin; refine JN rfl _ _ 22 rfl w.heap.size 5 (.int .u8 0) 1 Tryz.underlying22 ja rfl (.slice A0 pre.length c0) pre.length (idV pre) rfl HOWN.out _ _ rfl rfl ?c1 ?c2 ?c3 ?_)
     case c1 => unfold maxLen; omega
     case c2 => omega
     case c3 => exact HBR.out.size
     intro v' w3 hown3 hbel
     have HB3 := hid (hbel _ w (Nat.le_refl _) HBR.out)
     have HO3 := hid hown3
     clear hbel hown3
     obtain ⟨A3, c3, rfl⟩ := kB HO3.out
     go_wp2_with fail
     go_ret
     have e1 : (kZ n).length = pre.length + 1 := by rw [HP.out, HSM.out]; simp
     have e2 : idV (kZ n) = idV pre ++ [.int .u8 (m : Int)] := by
       rw [HP.out, HSM.out]
       simp only [idV, List.map_append, List.map_cons, List.map_nil]
       rw [uK (by omega)]
     exact ⟨HB3.out, A3, c3, by rw [e1]; rfl, by rw [e1, e2]; exact HO3.out⟩
    ·
     have i1 : (128 : Int) ≤ (m : Int) := by omega
     go_wp2_with (at_builtin; refine JN rfl _ _ 22 rfl w.heap.size 5 (.int .u8 0) 1 Tryz.underlying22 ja rfl (.slice A0 pre.length c0) pre.length (idV pre) rfl HOWN.out _ _ rfl rfl ?c1 ?c2 ?c3 ?_)
     case c1 => unfold maxLen; omega
     case c2 => omega
     case c3 => exact HBR.out.size
     intro v' w3 hown3 hbel
     have HB3 := hid (hbel _ w (Nat.le_refl _) HBR.out)
     have HO3 := hid hown3
     clear hbel hown3
     obtain ⟨A3, c3, rfl⟩ := kB HO3.out
     go_wp2_with fail
     go_roundw
     case rel =>
       refine ⟨m / 128, pre ++ [UInt8.ofNat (m % 128 + 128)], A3, c3, congrArg (Value.int .i64) (by omega), by simp, by omega, by rw [List.length_append, List.length_singleton]; omega, hid ?_, hid ?_, HB3⟩
       · rw [HP.out, Zs h128]
         simp
       ·
        rw [List.length_append, List.length_singleton]
        have e : idV (pre ++ [UInt8.ofNat (m % 128 + 128)]) = idV pre ++ [.int .u8 (128 + (m : Int) % 128)] := by
          simp only [idV, List.map_append, List.map_cons, List.map_nil]
          rw [uK (by omega), show ((m % 128 + 128 : Nat) : Int) = 128 + (m : Int) % 128 by omega]
        rw [e]
        exact HO3.out
     case measure => (simp [intOf]) <;> omega
theorem KN (s : ByteArray) (hs : s.size ≤ 1099511627776) (w : World) : Calls Tryz.prog 63 #[.string s] w (JI (kS (L s)) w) := by
  have hl := je (n := s.size) (by omega)
  obtain ⟨i0, hi, hz0, hz1, hz2⟩ := info_parts ja
  have HTX := hid (show kS (L s) = kZ s.size ++ L s by unfold kS; rw [jV])
  go_enter Tryz.func63, Tryz.ntmps63
  go_wp2_with (first
    | (go_at_call 64; refine (zD s.size (by omega) w).mono ?_; rintro e w1 ⟨hb1, A1, c1, rfl, ho1⟩
       have HB1 := hid hb1; have HO1 := hid ho1
       clear hb1 ho1)
    | (at_builtin; refine Lib.wpList_append_own_string _ rfl _ _ 22 9 rfl w.heap.size 5 i0 Tryz.underlying22 Tryz.underlying9 hi hz0 hz1 hz2 _ _ _ rfl HO1.out s rfl ?c1 ?c2 ?c3 ?_))
  case c1 => unfold maxLen; omega
  case c2 => omega
  case c3 => exact HB1.out.size
  intro v' w3 hown3 hgr3 _
  have HO3 := hid hown3
  have HB3 := hid (HB1.out.grown hgr3 HB1.out.size (fun k e => (HO1.out.lt k e).1))
  clear hown3 hgr3
  obtain ⟨A3, c3, rfl⟩ := kB HO3.out
  go_wp2_with fail
  go_ret
  have e1 : (kS (L s)).length = (kZ s.size).length + s.size := by rw [HTX.out, List.length_append, jV]
  have e2 : idV (kS (L s)) = idV (kZ s.size) ++ (L s).map fun b => Value.int .u8 (b.toNat : Int) := by rw [HTX.out]; unfold idV; rw [List.map_append]
  exact ⟨HB3.out, A3, c3, by rw [e1]; rfl, by rw [e1, e2]; exact HO3.out⟩
end Go.Proofs.YthjaepmfkgejkaaGreatDoor
namespace Go.Proofs.YthjaepmfkgejkaaGreatDoor
open Go.RowKit
def at3 (x y z : Int) (i : Nat) : Int := if i = 0 then x else if i = 1 then y else z
theorem UR {w : World} {g : Nat} {cs : List Value} {t : TypeId} {fr : Nat × Nat} (h : w.heap[g]? = some (.cells cs.toArray t fr)) (j : Nat) : w.cell? ⟨g, j, none⟩ = cs[j]? := by
  rw [cell_of_row w g j _ t fr h]
  simp
end Go.Proofs.YthjaepmfkgejkaaGreatDoor
namespace Go.Proofs.YthjaepmfkgejkaaGreatDoor
open Lib (hid)
open Go.RowKit
theorem cmpB_cut : ∀ (i : Nat) (a b : List UInt8), a.take i = b.take i → i ≤ a.length → i ≤ b.length → jJ a b = jJ (a.drop i) (b.drop i)
  | 0, _, _, _, _, _ => rfl
  | i + 1, [], _, _, h, _ => by simp at h
  | i + 1, _ :: _, [], _, _, h => by simp at h
  | i + 1, x :: a, y :: b, h, ha, hb => by
    simp only [List.take_succ_cons, List.cons.injEq] at h
    obtain ⟨rfl, h⟩ := h
    rw [KH, if_neg (KC x), if_neg (KC x)]
    exact cmpB_cut i a b h (by simpa using ha) (by simpa using hb)
theorem cmpB_stop {a b : List UInt8} {i : Nat} (h : a.take i = b.take i) (ha : i < a.length) (hb : i < b.length) : (a[i] < b[i] → jJ a b = -1) ∧ (b[i] < a[i] → jJ a b = 1) ∧ (¬ a[i] < b[i] → ¬ b[i] < a[i] → a.take (i + 1) = b.take (i + 1)) := by
  have e := cmpB_cut i a b h (by omega) (by omega)
  rw [List.drop_eq_getElem_cons ha, List.drop_eq_getElem_cons hb, KH] at e
  refine ⟨fun q => by rw [e, if_pos q], fun q => by rw [e, if_neg (JB q), if_pos q], fun q r => ?_⟩
  have : a[i] = b[i] := by
    rcases JA a[i] b[i] with h1 | h1 | h1
    · exact absurd h1 q
    · exact absurd h1 r
    · exact h1
  rw [List.take_succ_eq_append_getElem ha, List.take_succ_eq_append_getElem hb, h, this]
theorem id_cells {l : List UInt8} (h : Kw l) (i : Nat) (hi : i < 32) : (idV l)[i]? = some (.int .u8 ((l[i]'(by rw [h]; exact hi)).toNat : Int)) := by
  have hl : l.length = 32 := h
  simp [idV, hl, hi]
theorem Uv (a b : List UInt8) (w : World) (ha : Kw a) (hb : Kw b) :
    Calls Tryz.prog 117 #[.agg (idV a).toArray, .agg (idV b).toArray] w fun e w' => Gr w w' ∧ e = .returned (.int .i64 (jJ a b)) := by
  have h1 : (w.alloc (.cells (idV a).toArray 47)).heap[w.heap.size]? = some (.cells (idV a).toArray 47 (0, 0)) := heap_alloc_new _ _
  have hla : a.length = 32 := ha
  have hlb : b.length = 32 := hb
  go_enter Tryz.func117, Tryz.ntmps117
  go_upto_region 1 with fail
  obtain ⟨W, hW⟩ : ∃ W, (w.alloc (.cells (idV a).toArray 47)).alloc (.cells (idV b).toArray 47) = W := ⟨_, rfl⟩
  have hA : W.heap[w.heap.size]? = some (.cells (idV a).toArray 47 (0, 0)) := by
    rw [← hW]
    exact (heap_alloc_old (w.alloc (.cells (idV a).toArray 47)) _ (by simp)).trans h1
  have hB : W.heap[w.heap.size + 1]? = some (.cells (idV b).toArray 47 (0, 0)) := by
    rw [← hW]
    have := heap_alloc_new (w.alloc (.cells (idV a).toArray 47)) (.cells (idV b).toArray 47)
    rw [World.size_alloc] at this
    exact this
  have hbW : Gr w W := by rw [← hW]; exact ((Gr.refl _).alloc _).alloc _
  have hsW : W.heap.size = w.heap.size + 2 := by rw [← hW]; simp
  rw [hW]
  clear hW h1
  have HA := hid fun (i : Nat) (hi : i < 32) => (UR hA i).trans (id_cells ha i hi)
  have HB := hid fun (i : Nat) (hi : i < 32) => (UR hB i).trans (id_cells hb i hi)
  have HSW := hid hsW
  have HST := hid fun (i : Nat) (hi : i < 32) (h : a.take i = b.take i) => cmpB_stop h (by omega) (by omega)
  have HEN := hid fun (h : a.take 32 = b.take 32) => (show jJ a b = 0 from by
    rw [List.take_of_length_le (by omega), List.take_of_length_le (by omega)] at h
    exact Kj.2 h)
  clear hA hB hsW
  go_wp2_with fail
  go_loopw [5] (fun t wr => ∃ i : Nat, i ≤ 32 ∧ t = .int .i64 i ∧ Gr W wr ∧ Hid (a.take i = b.take i)) (fun t _ => 32 - (intOf t).toNat)
  case atStart => exact ⟨0, by omega, rfl, Gr.refl _, hid rfl⟩
  case round =>
    obtain ⟨i, hi, rfl, hgr, hI⟩ := hrel
    by_cases hlt : i < 32
    ·
     have ca := (hgr.below.cell (p := ⟨w.heap.size, i, none⟩) (by have := HSW.out; show w.heap.size < _; omega)).trans (HA.out i hlt)
     have cb := (hgr.below.cell (p := ⟨w.heap.size + 1, i, none⟩) (by have := HSW.out; show w.heap.size + 1 < _; omega)).trans (HB.out i hlt)
     have i0 : (0 : Int) ≤ (i : Int) := by omega
     have i1 : (i : Int) < 32 := by omega
     have hst := hid (HST.out i hlt hI.out)
     generalize a[i]'(by omega) = x at *
     generalize b[i]'(by omega) = y at *
     rcases JA x y with h | h | h
     ·
      have q1 : ((x.toNat : Nat) : Int) < (y.toNat : Int) := by rw [UInt8.lt_iff_toNat_lt] at h; omega
      have hr := hid (hst.out.1 h)
      go_wp2_with fail
      go_quiet (fail)
      go_wp2_with fail
      go_ret
      exact ⟨hbW.trans (hgr.drewN _), by rw [hr.out]; rfl⟩
     ·
      have q1 : ((y.toNat : Nat) : Int) < (x.toNat : Int) := by rw [UInt8.lt_iff_toNat_lt] at h; omega
      have q2 : ¬ ((x.toNat : Nat) : Int) < (y.toNat : Int) := by omega
      have hr := hid (hst.out.2.1 h)
      go_wp2_with fail
      go_quiet (fail)
      go_wp2_with fail
      go_quiet (fail)
      go_wp2_with fail
      go_ret
      exact ⟨hbW.trans ((hgr.drewN _).drewN _), by rw [hr.out]; rfl⟩
     ·
      subst h
      have hnx := hid (hst.out.2.2 (KC x) (KC x))
      go_wp2_with fail
      go_quiet (fail)
      go_wp2_with fail
      go_quiet (fail)
      go_wp2_with fail
      go_roundw
      case rel => exact ⟨i + 1, by omega, by go_num, hgr.drewN _, hnx⟩
      case measure => simp [intOf]; omega
    ·
     have i1 : ¬ (i : Int) < 32 := by omega
     have e : i = 32 := by omega
     have hr := hid (HEN.out (by rw [← e]; exact hI.out))
     clear e
     go_wp2_with fail
     go_ret
     exact ⟨hbW.trans hgr, by rw [hr.out]; rfl⟩
end Go.Proofs.YthjaepmfkgejkaaGreatDoor
