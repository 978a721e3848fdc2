/-
  A slice of one element of one cell, built at a step taken by hand. Over any program; conditions as it says.
  The writer's memory: bytes put one behind the other. Conditions: as each says.
  What the writer's number and text write. Conditions: a number below 2^63; a text of at most 2^40 bytes.
  What the program's order gives of ids: Compare, IsSet, place, Find. Conditions: ids of 32 bytes; as each says.
  What IsSet, place and Find give. Conditions: ids of 32 bytes; lists of at most 2^40 ids.
  What place and Find give. Conditions: ids of 32 bytes; lists of at most 2^40 ids.
-/
import Derived.Test.YthjaepmfkgejkaaGreatDoorMerged9
import Derived.Test.YthjaepmfkgejkaaGreatDoorMerged7
import Derived.Test.YthjaepmfkgejkaaGreatDoorMerged8
import Derived.Test.YthjaepmfkgejkaaGreatDoorProg
import Derived.Test.YthjaepmfkgejkaaGreatDoorMerged2
import Derived.Test.YthjaepmfkgejkaaGreatDoorMerged6
import Derived.Lib.SlBytesRow
import Derived.Lib.BytesEntry
import Derived.Handy
import Derived.PlainAid
import Derived.Lib.Hide
import Derived.Deep.QuietTactic
import Derived.BigQuiet
import Derived.StillTailTactics
import Derived.Deep.CutRange
set_option linter.unusedVariables false
set_option linter.unusedSimpArgs false
set_option maxHeartbeats 4000000
set_option maxRecDepth 100000
namespace Go.Proofs.YthjaepmfkgejkaaGreatDoor
open Go.RowKit Go.Maps
theorem ex_build1c {P : Program} {ρ : Operand → Value} {o : Oper} {w : World} (t : TypeId) (x : Operand) (ho : o.op = .buildSlice t 1 #[(0, x)]) (e : TypeId) (ht : P.underlying t = some (.slice e)) (z : Value) (bytes : Nat) (hinf : (P.info? e).map (fun i => (i.zero, i.size, i.bytes)) = some (some z, 1, bytes)) (hz1 : z.cells.size = 1)
    (v : Value) (hx : ρ x = v) (hv : v.cells = #[v]) : (execOp ρ o).run P w = .ok (.value (.slice (some ⟨w.heap.size, 0, none⟩) 1 1)) (w.alloc (.cells #[v] e)) := by
  have hrun := Jp w t e ht z 1 bytes hinf hz1 (by decide) [v] (fun u hu => by rw [List.mem_singleton.1 hu, hv]; rfl) (by simp) (by simp)
  simp only [List.flatMap_cons, List.flatMap_nil, List.append_nil, hv] at hrun
  unfold execOp
  have h2 : (Instr.buildSlice t 1 #[(0, v)]).run P w = .ok (.slice (some ⟨w.heap.size, 0, none⟩) 1 1) (w.alloc (.cells #[v] e)) := hrun
  simp only [ho, List.map_toArray, List.map_cons, List.map_nil, hx, Sem.run_bind, h2, Result.andThen_ok, Sem.run_pure]
end Go.Proofs.YthjaepmfkgejkaaGreatDoor
namespace Go.Proofs.YthjaepmfkgejkaaGreatDoor
open Go.RowKit Go.Maps
theorem ZU {P : Program} {o : Oper} {a : Act} {K : Act → World → Prop} {Q : Exit → Act → World → Prop} {w : World} (s x : Operand) (t : TypeId)
    (ho : o.op = .call { callee := .builtin .append, args := #[s, x], argTypes := #[t, t] })
    (base : Nat) (e : TypeId) (z : Value) (size bytes : Nat) (ht : P.underlying t = some (.slice e)) (hinf : (P.info? e).map (fun i => (i.zero, i.size, i.bytes)) = some (some z, size, bytes))
    (hz1 : z.cells.size = size) (hsz : 0 < size) (v : Value) (n : Nat) (xs : List Value) (hs : a.eval s = v) (hown : w.ownsRow base e size v n xs)
    (A : Addr) (m c : Nat) (news : List Value) (hx : a.eval x = .slice (some A) m c) (hl : news.length = m * size) (hnews : ∀ j u, news[j]? = some u → w.cell? (A.add j) = some u) (h1 : ∀ u ∈ news, u.oneCell' = true)
    (hn : n + m ≤ maxLen) (hb : (n + m) * bytes ≤ 140737488355328) (hbase : base ≤ w.heap.size)
    (h : ∀ v' w', w'.ownsRow base e size v' (n + m) (xs ++ news) → w.grownBy w' v.ownBlock → vH w.heap.size v v' → K (a.put o.dst v') w') : o.wp P a w K Q := by
  obtain ⟨i0, hi, hz0, hz2, hz3⟩ := info_parts hinf
  obtain ⟨v', w', hr, hown', hgrow, _⟩ := run_append_own (P := P) w base t o.type e i0 z size bytes ht hi hz0 hz2 hz3 hz1 hsz v n xs hown A m c news hl hnews h1 hn hb hbase
  have hwh := Z5 (P := P) (w := w) base t o.type e i0 z size bytes ht hi hz0 hz2 hz3 hz1 hsz v n xs hown A m c news hl hnews h1 hn hb hr
  unfold Oper.wp execOp
  simp only [ho, resolve, invoke, builtin, Sem.run_bind, Sem.run_pure, Result.andThen_ok, List.map_toArray, List.map_cons, List.map_nil, hs, hx, hr]
  exact h v' w' hown' hgrow hwh
def WrAt (w : World) (g : Nat) (xs : List UInt8) : Prop := ∃ v, w.heap[g]? = some (.cells #[v] 76 (0, 0)) ∧ w.ownsRow (g + 1) 5 1 v xs.length (idV xs)
def WrX (w : World) (g k : Nat) : Prop := k = g ∨ ∃ v T z, w.heap[g]? = some (.cells #[v] T z) ∧ v.ownBlock = some k
def WrGo (g : Nat) (w w' : World) : Prop := But (WrX w g) w w' ∧ ∀ i, i < w.heap.size → WrX w' g i → WrX w g i
section
variable {g : Nat} {xs ys : List UInt8} {w w' w1 w2 : World}
theorem WrAt.lt (h : WrAt w g xs) : g < w.heap.size := by
  obtain ⟨v, h1, _⟩ := h
  exact (Array.getElem?_eq_some_iff.1 h1).1
theorem WrX.at_ {v : Value} {T : TypeId} {z : Nat × Nat} (h : w.heap[g]? = some (.cells #[v] T z)) {k : Nat} (hx : WrX w g k) : k = g ∨ v.ownBlock = some k := by
  rcases hx with q | ⟨v', T', z', h', q⟩
  · exact .inl q
  ·
   rw [h] at h'
   injection h' with h'
   injection h' with h' _ _
   injection h' with h'
   injection h' with h' _
   subst h'
   exact .inr q
theorem WrAt.low (h : WrAt w g xs) {k : Nat} (hk : k < g) : ¬ WrX w g k := by
  obtain ⟨v, h1, h2⟩ := h
  intro hx
  rcases hx.at_ h1 with q | q
  · omega
  · have := (h2.lt k q).1; omega
theorem WrAt.fresh (h : WrAt w g xs) {k : Nat} (hk : w.heap.size ≤ k) : ¬ WrX w g k := by
  have hlt := h.lt
  obtain ⟨v, h1, h2⟩ := h
  intro hx
  rcases hx.at_ h1 with q | q
  · omega
  · have := (h2.lt k q).2; omega
theorem WrGo.refl (g : Nat) (w : World) : WrGo g w w := ⟨But.refl _ _, fun _ _ h => h⟩
theorem WrGo.trans (h : WrGo g w w1) (k : WrGo g w1 w2) : WrGo g w w2 :=
  ⟨h.1.trans k.1 fun i hi hx => h.2 i hi hx, fun i hi hx => h.2 i hi (k.2 i (Nat.lt_of_lt_of_le hi h.1.size) hx)⟩
theorem WrGo.below (hg : g < w.heap.size) (h : Below w.heap.size w w') : WrGo g w w' :=
  ⟨But.of_below h, fun i hi hx => by
    rcases hx with q | ⟨v, T, z, h1, q⟩
    · exact .inl q
    · exact .inr ⟨v, T, z, (h.block g hg).symm.trans h1, q⟩⟩
theorem WrAt.keep (h : WrAt w g xs) (hb : Below w.heap.size w w') : WrAt w' g xs := by
  have hlt := h.lt
  obtain ⟨v, h1, h2⟩ := h
  exact ⟨v, (hb.block g hlt).trans h1, (But.of_below (X := NoB) hb).own h2 fun _ _ q => q⟩
theorem WrAt.newNot (h : WrAt w g xs) (hb : Below w.heap.size w w') {k : Nat} (hk : w.heap.size ≤ k) : ¬ WrX w' g k := by
  intro hx
  refine h.fresh hk ?_
  rcases hx with q | ⟨v, T, z, h1, q⟩
  · exact .inl q
  · exact .inr ⟨v, T, z, (hb.block g h.lt).symm.trans h1, q⟩
theorem WrAt.keepNot (h : WrAt w g xs) (hb : Below w.heap.size w w') {k : Nat} (hk : ¬ WrX w g k) : ¬ WrX w' g k := by
  intro hx
  refine hk ?_
  rcases hx with q | ⟨v, T, z, h1, q⟩
  · exact .inl q
  · exact .inr ⟨v, T, z, (hb.block g h.lt).symm.trans h1, q⟩
theorem WrGo.apart (h : WrGo g w w') {k : Nat} (hk : k < w.heap.size) (hx : ¬ WrX w g k) : w'.heap[k]? = w.heap[k]? ∧ ¬ WrX w' g k := ⟨h.1.block k hk hx, fun q => hx (h.2 k hk q)⟩
theorem WrGo.cell (h : WrGo g w w') {k j : Nat} (hk : k < w.heap.size) (hx : ¬ WrX w g k) : w'.cell? ⟨k, j, none⟩ = w.cell? ⟨k, j, none⟩ := h.1.cell hk hx
theorem WrGo.belowG (h : WrGo g w w') (hw : WrAt w g xs) : Below g w w' := h.1.below (Nat.le_of_lt hw.lt) fun k hk => hw.low hk
theorem WrAt.put {v v' : Value} (h1 : w.heap[g]? = some (.cells #[v] 76 (0, 0))) (h2 : w.ownsRow (g + 1) 5 1 v xs.length (idV xs)) (hb : Below w.heap.size w w1) (ho : w2.ownsRow (g + 1) 5 1 v' (xs.length + ys.length) (idV xs ++ idV ys))
    (hg : w1.grownBy w2 v.ownBlock) (hw : vH w1.heap.size v v') : w2.cell? ⟨g, 0, none⟩ = some v ∧ w2.frozen? ⟨g, 0, none⟩ = false ∧ WrAt (w2.setCell ⟨g, 0, none⟩ v') g (xs ++ ys) ∧ WrGo g w (w2.setCell ⟨g, 0, none⟩ v') := by
  have hlt := (Array.getElem?_eq_some_iff.1 h1).1
  have hlt1 := Nat.lt_of_lt_of_le hlt hb.size
  have hne : v.ownBlock ≠ some g := fun e => by have := (h2.lt g e).1; omega
  have hne' : v'.ownBlock ≠ some g := fun e => by have := (ho.lt g e).1; omega
  have hg2 : w2.heap[g]? = some (.cells #[v] 76 (0, 0)) := ((hg.block g hlt1 (fun e => hne e.symm)).trans (hb.block g hlt)).trans h1
  have hset : (w2.setCell ⟨g, 0, none⟩ v').heap[g]? = some (.cells #[v'] 76 (0, 0)) := by
    obtain ⟨hl2, he2⟩ := Array.getElem?_eq_some_iff.1 hg2
    simp [World.setCell, Array.getElem?_modify, hg2]
  refine ⟨?_, ?_, ⟨v', hset, ?_⟩, ?_, ?_⟩
  · simp [World.cell?, hg2]
  · simp [World.frozen?, hg2]
  ·
   have hbut : But (fun k => k = g) w2 (w2.setCell ⟨g, 0, none⟩ v') := But.setCell (X := fun k => k = g) (But.refl _ _) (p := ⟨g, 0, none⟩) (fun _ => rfl) v'
   have := hbut.own ho fun k hk e => hne' (by rw [hk, e])
   rw [List.length_append, vJ]
   exact this
  · refine But.setCell (But.grown (But.of_below hb) hg fun k hk _ => .inr ⟨v, _, _, h1, hk⟩) (fun _ => .inl rfl) v'
  ·
   intro i hi hx
   rcases hx.at_ hset with q | q
   · exact .inl q
   ·
    rcases hw with e | ⟨k, e, hk⟩
    · exact .inr ⟨v, _, _, h1, by rw [← e]; exact q⟩
    ·
     rw [e] at q
     injection q with q
     have := hb.size
     omega
end
theorem vO {w : World} {base : Nat} {e : TypeId} {sz : Nat} {v : Value} {n : Nat} {xs : List Value} (h : w.ownsRow base e sz v n xs) (hn : 0 < n) : ∃ k c, v = .slice (some ⟨k, 0, none⟩) n c ∧ ∀ j u, xs[j]? = some u → w.cell? ((⟨k, 0, none⟩ : Addr).add j) = some u := by
  rcases h.2 with ⟨_, h0⟩ | ⟨k, cap, cur, rfl, r⟩
  · omega
  · exact ⟨k, cap, rfl, h.cells rfl⟩
end Go.Proofs.YthjaepmfkgejkaaGreatDoor
namespace Go.Proofs.YthjaepmfkgejkaaGreatDoor
open Lib (hid)
open Go.RowKit Go.Maps
theorem KU (g n : Nat) (xs : List UInt8) (w : World) (hw : WrAt w g xs) (hn : n < 9223372036854775808) (hx : xs.length ≤ 1099511627776) :
    Calls Tryz.prog 66 #[.pointer (some ⟨g, 0, none⟩), .int .i64 (n : Int)] w fun e w' => e = .returned (.tuple #[]) ∧ WrAt w' g (xs ++ kZ n) ∧ WrGo g w w' := by
  have HLT := hid hw.lt
  obtain ⟨v, hhg, how⟩ := hw
  have HHG := hid hhg; have HOW := hid how
  have HCV := hid (show w.cell? ⟨g, 0, none⟩ = some v from k6 hhg 0)
  clear hhg how
  have hlen := je (n := n) (by omega)
  have hpos := vx n
  have HWF : IntKind.u64.wrap (n : Int) = (n : Int) := IntWalk.u64_in _ ⟨by omega, by omega⟩
  clear HWF
  go_enter Tryz.func66, Tryz.ntmps66
  go_wp2_with (first
    | (go_at_call 92; refine (put_nil n hn w).mono ?_; rintro e w1 ⟨v1, rfl, ho1, hb1⟩
       obtain ⟨k1, c1, rfl, hcs1⟩ := vO ho1 hpos
       have HC1 := hid hcs1
       have HB1 := hid hb1
       have hc1 : w1.cell? ⟨g, 0, none⟩ = some v := (hb1.cell (p := ⟨g, 0, none⟩) HLT.out).trans HCV.out
       have HOW1 := hid ((But.of_below (X := NoB) hb1).own HOW.out fun _ _ q => q)
       have HSZ1 := hid hb1.size
       clear hcs1 ho1 hb1)
    | (refine Kn (by rfl) _ _ 22 rfl (g + 1) 5 (.int .u8 0) 1 1 Tryz.underlying22 ja rfl (by decide) v xs.length (idV xs) rfl HOW1.out ⟨k1, 0, none⟩ (kZ n).length c1 (idV (kZ n)) rfl (by rw [km, Nat.mul_one]) HC1.out (kT _) (by unfold maxLen; omega) (by omega) (Nat.le_trans HLT.out HSZ1.out) ?_
       intro v9 w9 ho9 hg9 hw9
       obtain ⟨A9, c9, rfl⟩ := kB ho9
       obtain ⟨cg, cf, hat, hgo⟩ := WrAt.put HHG.out HOW.out HB1.out ho9 hg9 hw9
       have HAT := hid hat; have HGO := hid hgo
       clear ho9 hg9 hw9 hat hgo))
  go_end0
  exact ⟨rfl, HAT.out, HGO.out⟩
theorem Z7 (g : Nat) (s : ByteArray) (xs : List UInt8) (w : World) (hw : WrAt w g xs) (hs : s.size ≤ 1099511627776) (hx : xs.length ≤ 1099511627776) :
    Calls Tryz.prog 68 #[.pointer (some ⟨g, 0, none⟩), .string s] w fun e w' => e = .returned (.tuple #[]) ∧ WrAt w' g (xs ++ kS (L s)) ∧ WrGo g w w' := by
  have HLT := hid hw.lt
  obtain ⟨v, hhg, how⟩ := hw
  have HHG := hid hhg; have HOW := hid how
  have HCV := hid (show w.cell? ⟨g, 0, none⟩ = some v from k6 hhg 0)
  clear hhg how
  have hlen : (kS (L s)).length ≤ 10 + s.size := by
    have := je (n := (L s).length) (by rw [jV]; omega)
    unfold kS
    rw [List.length_append, jV]
    rw [jV] at this
    omega
  have hpos : 0 < (kS (L s)).length := by
    have := vx (L s).length
    unfold kS
    rw [List.length_append]
    omega
  have hE1 : ∀ (u : World) (args : Array Value), (callFunc 93 args).run Tryz.prog u = .ok (.enter 93 args) u := fun u args => enters_of Tryz.func93 (by kernel_rfl) rfl args u
  go_enter Tryz.func68, Tryz.ntmps68
  go_upto_region 0 with fail
  refine kr 10 (fun u => u.cell? ⟨g, 0, none⟩ = some v) (by kernel_rfl) ?_
  have hF0 : (fun u => u.cell? ⟨g, 0, none⟩ = some v) w.drew := HCV.out
  refine tw 0 (.pointer (some ⟨g, 0, none⟩)) ?_
  go_frame
  refine tw 1 (.pointer (some ⟨g, 0, none⟩)) ?_
  go_frame
  refine tw 2 (.pointer (some ⟨g, 0, none⟩)) ?_
  go_frame
  refine tw 3 (.pointer (some ⟨g, 0, none⟩)) ?_
  go_frame
  refine tkF 4 (v) (by kernel_rfl) rfl (fun _ _ _ h => h) (by rfl) hF0 (fun w' hw' => ki 22 _ rfl (p := ⟨g, 0, none⟩) rfl Tryz.underlying22 rfl hw') ?_
  go_frame
  refine tw 5 (.string s) ?_
  go_frame
  refine ta 6 ?_
  refine kC _ rfl (by kernel_rfl) (kv (f := 93) (args := #[.slice none 0 0, .string s]) rfl rfl (fun args w => hE1 w args) (by simp only [List.map_toArray, List.map_cons, List.map_nil]; rfl)) ?_
  refine (putText_nil s hs w.drew).mono ?_
  rintro e w1 ⟨v1, rfl, ho1, hb1⟩
  replace hb1 : Below w.heap.size w w1 := ((Below.refl _ _).drew).trans hb1
  obtain ⟨k1, c1, rfl, hcs1⟩ := vO ho1 hpos
  have HC1 := hid hcs1
  have HB1 := hid hb1
  have hc1 : w1.cell? ⟨g, 0, none⟩ = some v := (hb1.cell (p := ⟨g, 0, none⟩) HLT.out).trans HCV.out
  have HOW1 := hid ((But.of_below (X := NoB) hb1).own HOW.out fun _ _ q => q)
  have HSZ1 := hid hb1.size
  clear hcs1 ho1 hb1
  refine ⟨_, rfl, fun _ _ => hc1, ?_⟩
  go_frame
  refine ta 7 ?_
  refine Zi _ rfl (by kernel_rfl) ?_
  refine ZU _ _ 22 rfl (g + 1) 5 (.int .u8 0) 1 1 Tryz.underlying22 ja rfl (by decide) v xs.length (idV xs) rfl HOW1.out ⟨k1, 0, none⟩ (kS (L s)).length c1 (idV (kS (L s))) rfl (by rw [km, Nat.mul_one]) HC1.out (kT _) (by unfold maxLen; omega) (by omega) (Nat.le_trans HLT.out HSZ1.out) ?_
  intro v9 w9 ho9 hg9 hw9
  obtain ⟨A9, c9, rfl⟩ := kB ho9
  obtain ⟨cg, cf, hat, hgo⟩ := WrAt.put HHG.out HOW.out HB1.out ho9 hg9 hw9
  have HAT := hid hat; have HGO := hid hgo
  clear ho9 hg9 hw9 hat hgo
  refine ⟨fun _ _ => cg, ?_⟩
  go_frame
  refine tw 8 (.pointer (some ⟨g, 0, none⟩)) ?_
  go_frame
  refine tw 9 (.pointer (some ⟨g, 0, none⟩)) ?_
  go_frame
  refine ta 10 ?_
  refine z6 _ rfl (by kernel_rfl) (J2 22 _ _ rfl g 0 (.slice A9 (xs.length + (kS (L s)).length) c9) rfl rfl rfl rfl (by kernel_rfl) cg cf) ?_
  refine ⟨fun h => absurd h (by decide), ?_⟩
  go_frame
  refine kx (by kernel_rfl) ?_ _
  go_wp2_with fail
  go_end0
  exact ⟨rfl, HAT.out, HGO.out⟩
end Go.Proofs.YthjaepmfkgejkaaGreatDoor
namespace Go.Proofs.YthjaepmfkgejkaaGreatDoor
open Go.RowKit
theorem ur {P : Program} {w : World} {b off : Nat} {l : List UInt8} (cap : Nat) (hc : Lib.Bytes w b off ⟨l.toArray⟩) : (Extern.Bytes.bytesOf (.slice (some ⟨b, off, none⟩) l.length cap)).run P w = .ok ⟨l.toArray⟩ w := by
  have h := Lib.run_loadBytesX (P := P) (w := w) (l.map fun c => (c.toNat : Int)) ⟨b, off, none⟩ .empty (fun j x hj => by
    rw [List.getElem?_map] at hj
    rcases hl : l[j]? with _ | c
    · rw [hl] at hj; cases hj
    ·
     rw [hl] at hj
     obtain ⟨hlt, hcj⟩ := List.getElem?_eq_some_iff.1 hl
     have e1 : (⟨b, off, none⟩ : Addr).add j = ⟨b, off + j, none⟩ := by unfold Addr.add; split <;> simp_all
     have hs : j < (⟨l.toArray⟩ : ByteArray).size := by simpa [ByteArray.size] using hlt
     have e2 : (⟨l.toArray⟩ : ByteArray)[j] = l[j] := by
       show (l.toArray)[j] = l[j]
       simp
     simp only [Option.map_some, Option.some.injEq] at hj
     rw [e1, hc j hs, e2, hcj, hj])
  rw [List.length_map] at h
  show (Extern.Bytes.loadBytes ⟨b, off, none⟩ l.length .empty).run P w = _
  rw [h]
  congr 2
  have e3 : Lib.bytesOf (l.map fun c => (c.toNat : Int)) = l := by
    unfold Lib.bytesOf
    rw [List.map_map]
    conv => rhs; rw [← List.map_id l]
    apply List.map_congr_left
    intro c _
    simp
  rw [e3]
  simp [ByteArray.empty, ByteArray.emptyWithCapacity]
  rfl
theorem ua (a b : List UInt8) (ga oa ca gb ob cb : Nat) (w : World) (ha : Lib.Bytes w ga oa ⟨a.toArray⟩) (hb : Lib.Bytes w gb ob ⟨b.toArray⟩) :
    Calls Tryz.prog 129 #[.slice (some ⟨ga, oa, none⟩) a.length ca, .slice (some ⟨gb, ob, none⟩) b.length cb] w fun e w' => e = .returned (.int .i64 (jJ a b)) ∧ w' = w := by
  have hcmp : (Extern.BytealgCompare.compare #[.slice (some ⟨ga, oa, none⟩) a.length ca, .slice (some ⟨gb, ob, none⟩) b.length cb]).run Tryz.prog w = .ok (.int .i64 (jJ a b)) w := by
    change Sem.run Tryz.prog (do pure (goInt (Extern.BytealgCompare.cmp (← Extern.Bytes.bytesOf (.slice (some ⟨ga, oa, none⟩) a.length ca)) (← Extern.Bytes.bytesOf (.slice (some ⟨gb, ob, none⟩) b.length cb))))) w = _
    simp only [Sem.run_bind, Sem.run_pure, ur ca ha, ur cb hb, Result.andThen]
    rw [Lib.cmp_eq]
    rfl
  go_enter Tryz.func129, Tryz.ntmps129
  go_wp2
  rw [run_callFunc_extern Tryz.func132 (by kernel_rfl) (by kernel_rfl) (by kernel_rfl) (e := Extern.BytealgCompare.compare) (by kernel_rfl), hcmp]
  simp only [Result.andThen]
  rw [Oper.upon_value]
  go_wp2
  go_ret
  exact ⟨rfl, rfl⟩
theorem UL {w : World} {g : Nat} {l : List UInt8} {t : TypeId} {fr : Nat × Nat} (h : w.heap[g]? = some (.cells (idV l).toArray t fr)) : Lib.Bytes w g 0 ⟨l.toArray⟩ := by
  intro i hi
  have hi' : i < l.length := by simpa [ByteArray.size] using hi
  rw [Nat.zero_add, cell_of_row w g i _ t fr h]
  have e2 : (⟨l.toArray⟩ : ByteArray)[i] = l[i] := by
    show (l.toArray)[i] = l[i]
    simp
  rw [e2]
  simp [idV, hi']
theorem compare_gr (a b : List UInt8) (w : World) (ha : Kw a) (hb : Kw b) :
    Calls Tryz.prog 116 #[.agg (idV a).toArray, .agg (idV b).toArray] w fun e w' => Gr w w' ∧ e = .returned (.int .i64 (jJ a b)) := by
  have h1 : (w.alloc (.cells (idV a).toArray 47)).heap[w.heap.size]? = some (.cells (idV a).toArray 47 (0, 0)) := heap_alloc_new _ _
  go_enter Tryz.func116, Tryz.ntmps116
  go_upto_region 1 with fail
  obtain ⟨W, hW⟩ : ∃ W, (w.alloc (.cells (idV a).toArray 47)).alloc (.cells (idV b).toArray 47) = W := ⟨_, rfl⟩
  have hba : Lib.Bytes W w.heap.size 0 ⟨a.toArray⟩ := by
    rw [← hW]
    exact UL (t := 47) (fr := (0, 0)) ((heap_alloc_old (w.alloc (.cells (idV a).toArray 47)) _ (by simp)).trans h1)
  have hbb : Lib.Bytes W (w.heap.size + 1) 0 ⟨b.toArray⟩ := by
    rw [← hW]
    have := heap_alloc_new (w.alloc (.cells (idV a).toArray 47)) (.cells (idV b).toArray 47)
    rw [World.size_alloc] at this
    exact UL (t := 47) (fr := (0, 0)) this
  have hbW : Gr w W := by rw [← hW]; exact ((Gr.refl _).alloc _).alloc _
  rw [hW]
  clear hW h1
  have HA := Lib.hid hba; clear hba
  have HB := Lib.hid hbb; clear hbb
  have hcall := fun q => ua a b w.heap.size 0 32 (w.heap.size + 1) 0 32 (W.drewN q) (HA.out.drewN q) (HB.out.drewN q)
  rw [show a.length = 32 from ha, show b.length = 32 from hb] at hcall
  have HCALL := Lib.hid hcall; clear hcall
  go_quiet ((go_at_call 129; exact Calls.quiet_of_same (HCALL.out _)))
  go_wp2_with fail
  go_ret
  exact ⟨hbW.drewN _, rfl⟩
theorem ut (a b : List UInt8) (w : World) (ha : Kw a) (hb : Kw b) :
    Calls Tryz.prog 116 #[.agg (idV a).toArray, .agg (idV b).toArray] w fun e w' => Below w.heap.size w w' ∧ e = .returned (.int .i64 (jJ a b)) :=
  (compare_gr a b w ha hb).mono fun _ _ ⟨h, e⟩ => ⟨h.below, e⟩
end Go.Proofs.YthjaepmfkgejkaaGreatDoor
namespace Go.Proofs.YthjaepmfkgejkaaGreatDoor
open Lib (hid)
open Go.RowKit
theorem kR : (Tryz.prog.info? 47).map (·.size) = some 32 := by kernel_rfl
theorem ZV (l : List (List UInt8)) (A : Option Addr) (c : Nat) (w : World) (hn : l.length ≤ 1099511627776) (ho : IdsOk l) (hsl : Sl w w.heap.size A l.length 32 (jf l)) :
    Calls Tryz.prog 96 #[.slice A l.length c] w fun e w' => Below w.heap.size w w' ∧ e = .returned (.bool (kY l)) := by
  have HSL := hid hsl; clear hsl
  have HO := hid ho; clear ho
  go_enter Tryz.func96, Tryz.ntmps96
  go_wp2_with fail
  go_loopw [6] (fun t wr => ∃ i : Nat, i ≤ l.length ∧ t = .int .i64 i ∧ Below w.heap.size w wr ∧ Hid (∀ j (h : j + 1 < l.length), j + 1 < i → jJ (l[j]'(by omega)) l[j + 1] < 0)) (fun t _ => l.length - (intOf t).toNat)
  case atStart => exact ⟨0, by omega, rfl, Below.refl _ _, hid fun j _ hj => absurd hj (by omega)⟩
  case round =>
    obtain ⟨i, hi, rfl, hbr, hI⟩ := hrel
    by_cases hlt : i < l.length
    ·
     by_cases h0 : i = 0
     ·
      have hg : decide ((0 : Int) < (i : Int)) = false := by simp; omega
      have hg2 : decide (0 < i) = false := by simp; omega
      have hg3 : (i : Int) ≤ 0 := by omega
      have H0 := hid h0; clear h0
      go_wp2_with fail
      go_quiet (fail)
      go_wp2_with fail
      go_roundw
      case rel => exact ⟨i + 1, by omega, by go_num, below_drewN hbr _, hid fun j _ hj => absurd hj (by have := H0.out; omega)⟩
      case measure => simp [intOf]; omega
     ·
      have hg : decide ((0 : Int) < (i : Int)) = true := by simp; omega
      have hg2 : decide (0 < i) = true := by simp; omega
      have i1 : (0 : Int) ≤ (i : Int) - 1 := by omega
      have i2 : (1 : Int) ≤ (i : Int) := by omega
      have i3 : (i : Int) < (l.length : Int) := by omega
      have i4 : ((i : Int) - 1) < (l.length : Int) := by omega
      obtain ⟨b, off, rfl, hbl, hcl⟩ := (HSL.out.keep hbr).2 (by omega)
      have c1 := Sl.id (B := 0) HO.out hcl (i := i - 1) (by omega)
      have c2 := Sl.id (B := 0) HO.out hcl (i := i) hlt
      have e1 : IntKind.i64.wrap ((i : Int) - 1) = ((i - 1 : Nat) : Int) := by rw [IntWalk.i64_in _ ⟨by omega, by omega⟩]; omega
      have e2 : ((i - 1 : Nat) : Int) < (l.length : Int) := by omega
      have C1 := hid c1; clear c1
      have C2 := hid c2; clear c2
      clear hcl
      go_wp2_with fail
      refine wp_region_still_tail 12 (by kernel_rfl) (by kernel_rfl) ?_
      simp only [List.take_succ_cons, List.take_zero, List.drop_succ_cons, List.drop_zero]
      repeat still_step
      refine K7 (by rfl) 47 _ rfl b _ rfl (idV (l[i - 1]'(by omega))) _ C1.out Tryz.underlying47 rfl (by rw [km, HO.out _ (List.getElem_mem _)]; exact kR) ?_
      repeat still_step
      refine K7 (by rfl) 47 _ rfl b _ rfl (idV l[i]) _ C2.out Tryz.underlying47 rfl (by rw [km, HO.out _ (List.getElem_mem _)]; exact kR) ?_
      refine wpStill_nil ?_
      change wpList _ _ _ _ _ wr.drew
      generalize hwd : wr.drew = w2
      have hbr2 : Below w.heap.size w w2 := by rw [← hwd]; exact hbr.drew
      clear hwd
      clear e1
      go_wp2_with fail
      refine (ut (l[i - 1]'(by omega)) l[i] _ (HO.out _ (List.getElem_mem _)) (HO.out _ (List.getElem_mem _))).mono ?_
      have hstop : 0 ≤ jJ (l[i - 1]'(by omega)) l[i] → kY l = false := by
        intro h
        rw [Bool.eq_false_iff]
        intro h2
        have := KY.1 h2 (i - 1) (by omega)
        simp only [show i - 1 + 1 = i by omega] at this
        omega
      have hgo : jJ (l[i - 1]'(by omega)) l[i] < 0 → ∀ j (h : j + 1 < l.length), j + 1 < i + 1 → jJ (l[j]'(by omega)) l[j + 1] < 0 := by
        intro h j hj hji
        rcases (by omega : j + 1 < i ∨ j + 1 = i) with q | q
        · exact hI.out j hj q
        ·
         have e1 : j = i - 1 := by omega
         subst e1
         simp only [show i - 1 + 1 = i by omega]
         exact h
      have HST := hid hstop; clear hstop
      have HGO := hid hgo; clear hgo
      generalize jJ (l[i - 1]'(by omega)) l[i] = q at *
      rintro e w3 ⟨hb3, rfl⟩
      have hbr3 := hbr2.trans (hb3.mono hbr2.size)
      by_cases hq : 0 ≤ q
      ·
       have hno := HST.out hq
       have HNO := hid hno; clear hno
       go_wp2_with fail
       go_ret
       exact ⟨hbr3, by rw [HNO.out]; rfl⟩
      ·
       have hq2 : q < 0 := by omega
       go_wp2_with fail
       go_roundw
       case rel => exact ⟨i + 1, by omega, by go_num, hbr3, hid (HGO.out hq2)⟩
       case measure => simp [intOf]; omega
    ·
     go_wp2_with fail
     go_ret
     refine ⟨hbr, ?_⟩
     have : kY l = true := KY.2 fun j hj => hI.out j hj (by omega)
     rw [this]; rfl
end Go.Proofs.YthjaepmfkgejkaaGreatDoor
namespace Go.Proofs.YthjaepmfkgejkaaGreatDoor
open Lib (hid)
open Go.RowKit
def FindGives (l : List (List UInt8)) (x : List UInt8) (w : World) (e : Ending) (w' : World) : Prop :=
  Below w.heap.size w w' ∧ ∃ n : Nat, e = .returned (.tuple #[.int .i64 n, .bool (kY l && decide (x ∈ l))]) ∧ n ≤ l.length ∧ ((kY l && decide (x ∈ l)) = true → l[n]? = some x)
theorem FindGives.yes {l : List (List UInt8)} {x : List UInt8} {w w' : World} {e : Ending} {n : Nat} (hs : kY l = true) (h : l[n]? = some x) (hb : Below w.heap.size w w') (he : e = .returned (.tuple #[.int .i64 n, .bool true])) : FindGives l x w e w' := by
  have hm : (kY l && decide (x ∈ l)) = true := by rw [hs]; simpa using List.mem_of_getElem? h
  refine ⟨hb, n, by rw [hm]; exact he, ?_, fun _ => h⟩
  have := (List.getElem?_eq_some_iff.1 h).1
  omega
theorem FindGives.no {l : List (List UInt8)} {x : List UInt8} {w w' : World} {e : Ending} {n : Nat} (hm : (kY l && decide (x ∈ l)) = false) (hn : n ≤ l.length) (hb : Below w.heap.size w w') (he : e = .returned (.tuple #[.int .i64 n, .bool false])) : FindGives l x w e w' :=
  ⟨hb, n, by rw [hm]; exact he, hn, fun h => by rw [hm] at h; cases h⟩
def Halving (l : List (List UInt8)) (x : List UInt8) (lo hi : Nat) : Prop :=
  (∀ j (h : j < l.length), j < lo → jJ l[j] x < 0) ∧ (∀ j (h : j < l.length), hi ≤ j → 0 < jJ l[j] x)
theorem Halving.start (l : List (List UInt8)) (x : List UInt8) : Halving l x 0 l.length := ⟨fun j _ h => absurd h (by omega), fun j h h' => absurd h (by omega)⟩
theorem Halving.up {l : List (List UInt8)} {x : List UInt8} {lo hi m : Nat} (h : Halving l x lo hi) (hs : kY l = true) (hm : m < l.length) (hc : jJ l[m] x < 0) : Halving l x (m + 1) hi := by
  refine ⟨fun j hj hjm => ?_, h.2⟩
  rcases (by omega : j < m ∨ j = m) with q | q
  · exact KD ((List.pairwise_iff_getElem.1 (JO hs)) j m hj hm q) hc
  · subst q; exact hc
theorem Halving.down {l : List (List UInt8)} {x : List UInt8} {lo hi m : Nat} (h : Halving l x lo hi) (hs : kY l = true) (hm : m < l.length) (hc : 0 < jJ l[m] x) : Halving l x lo m := by
  refine ⟨h.1, fun j hj hjm => ?_⟩
  rcases (by omega : m < j ∨ j = m) with q | q
  ·
   have h1 := (List.pairwise_iff_getElem.1 (JO hs)) m j hm hj q
   have h2 : jJ x l[m] < 0 := by rw [vY]; omega
   have := KD h2 h1
   rw [vY] at this
   omega
  · subst q; exact hc
theorem Halving.end {l : List (List UInt8)} {x : List UInt8} {lo hi : Nat} (h : Halving l x lo hi) (he : hi ≤ lo) : x ∉ l := by
  intro hx
  obtain ⟨j, hj, rfl⟩ := List.getElem_of_mem hx
  rcases (by omega : j < lo ∨ hi ≤ j) with q | q
  · have := h.1 j hj q
    rw [JX] at this; omega
  · have := h.2 j hj q
    rw [JX] at this; omega
theorem place_any (l : List (List UInt8)) (x : List UInt8) (A : Option Addr) (c : Nat) (w : World) (hn : l.length ≤ 1099511627776) (ho : IdsOk l) (hx : Kw x) (hs : kY l = true) (hsl : Sl w w.heap.size A l.length 32 (jf l)) :
    Calls Tryz.prog 120 #[.slice A l.length c, .agg (idV x).toArray] w (FindGives l x w) := by
  have HSL := hid hsl; clear hsl
  have HO := hid ho; clear ho
  have HS := hid hs; clear hs
  have hxl : (idV x).length = 32 := by rw [km]; exact hx
  go_enter Tryz.func120, Tryz.ntmps120
  go_upto_region 1 with fail
  obtain ⟨W0, hW0⟩ : ∃ W0, w.alloc (.cells (idV x).toArray 47) = W0 := ⟨_, rfl⟩
  have hb0 : Below w.heap.size w W0 := by rw [← hW0]; exact (Below.refl _ _).alloc (Nat.le_refl _) _
  have hg0 : W0.heap[w.heap.size]? = some (.cells (idV x).toArray 47 (0, 0)) := by rw [← hW0]; exact heap_alloc_new _ _
  have hz0 : w.heap.size < W0.heap.size := by rw [← hW0]; simp
  rw [hW0]
  have HX : Hid (∀ j u, (idV x)[j]? = some u → W0.cell? ⟨w.heap.size, 0 + j, none⟩ = some u) := hid (fun j u hj => by
    rw [Nat.zero_add, cell_of_row W0 w.heap.size j _ _ _ hg0]; simpa using hj)
  clear hW0 hg0
  go_wp2_with fail
  go_loopw [6, 7] (fun t6 t7 wr => ∃ lo hi : Nat, lo ≤ hi ∧ hi ≤ l.length ∧ t6 = .int .i64 lo ∧ t7 = .int .i64 hi ∧ Below W0.heap.size W0 wr ∧ Hid (Halving l x lo hi)) (fun t6 t7 _ => (intOf t7).toNat - (intOf t6).toNat)
  case atStart => exact ⟨0, l.length, by omega, by omega, rfl, rfl, Below.refl _ _, hid (Halving.start l x)⟩
  case round =>
    obtain ⟨lo, hi, hlh, hhl, rfl, rfl, hbr, hH⟩ := hrel
    have hbw := hb0.trans (hbr.mono (by omega))
    by_cases hlt : lo < hi
    ·
     obtain ⟨m, hm⟩ : ∃ m, m = lo + (hi - lo) / 2 := ⟨_, rfl⟩
     have hm1 : lo ≤ m := by omega
     have hm2 : m < hi := by omega
     have em : (lo : Int) + ((hi : Int) - (lo : Int)) / 2 = (m : Int) := by omega
     clear hm
     have i0 : (0 : Int) ≤ (m : Int) := by omega
     have i1 : (m : Int) < (l.length : Int) := by omega
     obtain ⟨b, off, rfl, hbl, hcl⟩ := (HSL.out.keep hbw).2 (by omega)
     have C1 : Hid _ := hid (Sl.id (B := 0) HO.out hcl (i := m) (by omega))
     have C2 : Hid (∀ j u, (idV x)[j]? = some u → wr.cell? ⟨w.heap.size, 0 + j, none⟩ = some u) := hid (fun j u hj => (hbr.cell (p := ⟨w.heap.size, 0 + j, none⟩) hz0).trans (HX.out j u hj))
     clear hcl
     go_upto_region 4 with fail
     clear em
     refine wp_region_still_tail 5 (by kernel_rfl) (by kernel_rfl) ?_
     simp only [List.take_succ_cons, List.take_zero, List.drop_succ_cons, List.drop_zero]
     repeat still_step
     refine K7 (by rfl) 47 _ rfl b _ rfl (idV (l[m]'(by omega))) _ C1.out Tryz.underlying47 rfl (by rw [km, HO.out _ (List.getElem_mem _)]; exact kR) ?_
     refine K7 (by rfl) 47 _ rfl w.heap.size 0 rfl (idV x) _ C2.out Tryz.underlying47 rfl (by rw [hxl]; exact kR) ?_
     refine wpStill_nil ?_
     change wpList _ _ _ _ _ wr.drew
     generalize hwd : wr.drew = w2
     have hbr2 : Below W0.heap.size W0 w2 := by rw [← hwd]; exact hbr.drew
     clear hwd
     go_wp2_with fail
     refine (ut (l[m]'(by omega)) x _ (HO.out _ (List.getElem_mem _)) hx).mono ?_
     have hup := hH.out.up HS.out (m := m) (by omega)
     have hdn := hH.out.down HS.out (m := m) (by omega)
     have heq : jJ (l[m]'(by omega)) x = 0 → l[m]? = some x := fun h => by rw [List.getElem?_eq_getElem (by omega), Kj.1 h]
     have HUP := hid hup; clear hup
     have HDN := hid hdn; clear hdn
     have HEQ := hid heq; clear heq
     generalize jJ (l[m]'(by omega)) x = q at *
     rintro e w3 ⟨hb3, rfl⟩
     have hbr3 := hbr2.trans (hb3.mono hbr2.size)
     have hbw3 := hb0.trans (hbr3.mono (by omega))
     rcases (by omega : q = 0 ∨ q < 0 ∨ 0 < q) with hq | hq | hq
     ·
      have hf := HEQ.out hq
      have HF := hid hf; clear hf
      have hq2 : (q == 0) = true := by simp [hq]
      clear hq
      go_wp2_with fail
      go_ret2
      exact FindGives.yes HS.out HF.out hbw3 rfl
     ·
      have hu := HUP.out hq
      have HU := hid hu; clear hu
      have hq2 : (q == 0) = false := by simp; omega
      go_wp2_with fail
      go_roundw
      case rel => exact ⟨m + 1, hi, by omega, by omega, by go_num, rfl, hbr3, HU⟩
      case measure => simp [intOf]; omega
     ·
      have hu := HDN.out hq
      have HU := hid hu; clear hu
      have hq2 : (q == 0) = false := by simp; omega
      go_wp2_with fail
      go_roundw
      case rel => exact ⟨lo, m, by omega, by omega, rfl, by go_num, hbr3, HU⟩
      case measure => simp [intOf]; omega
    ·
     have hno := hH.out.end (by omega)
     have HNO := hid hno; clear hno
     go_wp2_with fail
     go_ret2
     exact FindGives.no (by simp [HNO.out]) (by omega) hbw rfl
theorem Ub (l : List (List UInt8)) (x : List UInt8) (A : Option Addr) (c : Nat) (w : World) (hn : l.length ≤ 1099511627776) (ho : IdsOk l) (hx : Kw x) (hsl : Sl w w.heap.size A l.length 32 (jf l)) :
    Calls Tryz.prog 94 #[.slice A l.length c, .agg (idV x).toArray] w (FindGives l x w) := by
  have HSL := hid hsl; clear hsl
  have HO := hid ho; clear ho
  have hxl : (idV x).length = 32 := by rw [km]; exact hx
  go_enter Tryz.func94, Tryz.ntmps94
  go_upto_region 1 with fail
  obtain ⟨W0, hW0⟩ : ∃ W0, w.alloc (.cells (idV x).toArray 47) = W0 := ⟨_, rfl⟩
  have hb0 : Below w.heap.size w W0 := by rw [← hW0]; exact (Below.refl _ _).alloc (Nat.le_refl _) _
  have hg0 : W0.heap[w.heap.size]? = some (.cells (idV x).toArray 47 (0, 0)) := by rw [← hW0]; exact heap_alloc_new _ _
  have hz0 : w.heap.size < W0.heap.size := by rw [← hW0]; simp
  rw [hW0]
  have HX : Hid (∀ j u, (idV x)[j]? = some u → W0.cell? ⟨w.heap.size, 0 + j, none⟩ = some u) := hid (fun j u hj => by
    rw [Nat.zero_add, cell_of_row W0 w.heap.size j _ _ _ hg0]; simpa using hj)
  clear hW0 hg0
  have HSL0 := hid ((HSL.out.keep hb0).more hb0.size)
  go_wp2_with fail
  refine (ZV l A c _ hn HO.out HSL0.out).mono ?_
  cases hs : kY l
  ·
   have HS := hid hs; clear hs
   rintro e w1 ⟨hb1, rfl⟩
   go_wp2_with fail
   go_ret2
   exact FindGives.no (by rw [HS.out]; rfl) (Nat.zero_le _) (hb0.trans (hb1.mono hb0.size)) rfl
  ·
   have HS := hid hs; clear hs
   rintro e w1 ⟨hb1, rfl⟩
   have hb01 := hb0.trans (hb1.mono hb0.size)
   have HSL1 := hid ((HSL.out.keep hb01).more hb01.size)
   have C2 : Hid (∀ j u, (idV x)[j]? = some u → w1.cell? ⟨w.heap.size, 0 + j, none⟩ = some u) := hid (fun j u hj => (hb1.cell (p := ⟨w.heap.size, 0 + j, none⟩) hz0).trans (HX.out j u hj))
   go_wp2_with (refine zF rfl 47 _ rfl w.heap.size 0 rfl (idV x) _ C2.out Tryz.underlying47 rfl (by rw [hxl]; exact kR) ?_)
   refine (place_any l x A c _ hn HO.out hx HS.out HSL1.out).mono ?_
   rintro e w2 ⟨hb2, n, rfl, hn2, hf⟩
   have HF := hid hf; clear hf
   go_wp2_with fail
   go_ret2
   exact ⟨hb01.trans (hb2.mono hb01.size), n, rfl, hn2, HF.out⟩
end Go.Proofs.YthjaepmfkgejkaaGreatDoor
