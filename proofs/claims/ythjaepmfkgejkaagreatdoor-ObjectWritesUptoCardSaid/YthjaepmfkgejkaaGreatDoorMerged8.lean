/-
  What leb.Put and leb.PutText give behind nothing. Conditions: a number below 2^63; a text of at most 2^40 bytes.
  Structs put together from parts of several cells; a slice of one such element. Over any program; conditions as each says.
  A slice of one element of one cell, built at a step taken by hand. Over any program; conditions as it says.
  The writer's memory: bytes put one behind the other. Conditions: as each says.
  What the writer's number and text write. Conditions: a number below 2^63; a text of at most 2^40 bytes.
-/
import Derived.Test.YthjaepmfkgejkaaGreatDoorMerged1
import Derived.Test.YthjaepmfkgejkaaGreatDoorLebWalks
import Derived.Laws.OwnMore
import Derived.Deep.AppendSrc
import Derived.Laws.AppendOwnNone
import Derived.Lib.AppendStr
import Derived.Test.YthjaepmfkgejkaaGreatDoorMerged2
import Derived.Great.FillDense
import Derived.Laws.Tables
import Derived.Test.YthjaepmfkgejkaaGreatDoorMerged3
import Derived.Test.YthjaepmfkgejkaaGreatDoorMerged7
import Derived.Test.YthjaepmfkgejkaaGreatDoorMerged4
set_option linter.unusedVariables false
set_option linter.unusedSimpArgs false
set_option maxHeartbeats 4000000
set_option maxRecDepth 100000
namespace Go.Proofs.YthjaepmfkgejkaaGreatDoor
open Go.RowKit
theorem or128 : ∀ x : Fin 256, bits BinOp.or IntKind.u8 ((x.val : Nat) : Int) 128 = ((x.val % 128 + 128 : Nat) : Int) := by decide +kernel
theorem or128' (m : Nat) : bits BinOp.or IntKind.u8 (IntKind.u8.wrap (m : Int)) 128 = ((m % 128 + 128 : Nat) : Int) := by
  have e1 : IntKind.u8.wrap (m : Int) = ((m % 256 : Nat) : Int) := by
    show (m : Int) % 256 = _
    omega
  have h := or128 ⟨m % 256, by omega⟩
  simp only at h
  rw [e1, h, show m % 256 % 128 = m % 128 by omega]
theorem ZC (a b : List UInt8) : idV (a ++ b) = idV a ++ idV b := by simp [idV]
theorem kg {w : World} {base : Nat} {e : TypeId} {sz : Nat} {v : Value} {n : Nat} {xs : List Value} (h : w.ownsRow base e sz v n xs) : ∃ A c, v = .slice A n c := by
  rcases h.2 with ⟨hv, hn⟩ | ⟨g, cap, cur, hv, _⟩
  · exact ⟨none, 0, by rw [hv, hn]⟩
  · exact ⟨_, _, hv⟩
theorem kU {n : Nat} (h : n < 18446744073709551616) : (kS n).length ≤ 10 :=
  numB_len 10 n (by omega) (by have e : 128 ^ 10 = 1180591620717411303424 := by decide
                               omega)
theorem UO (n : Nat) (hn : n < 18446744073709551616) (v : Value) (k : Nat) (xs : List Value) (base : Nat) (w : World) (hown : w.ownsRow base 5 1 v k xs) (hbase : base ≤ w.heap.size) (hk : k ≤ 1099511627776) :
    Calls Tryz.prog 118 #[v, .int .u64 n] w fun e w' => ∃ v', e = .returned v' ∧ w'.ownsRow base 5 1 v' (k + (kS n).length) (xs ++ idV (kS n)) ∧ Below base w w' := by
  have h10 := kU hn
  have H10 := Lib.hid h10; clear h10
  go_enter Tryz.func118, Tryz.ntmps118
  go_wp2_with fail
  go_loopw [0, 1] (fun t0 t1 wr => ∃ (m : Nat) (pre : List UInt8), t1 = .int .u64 m ∧ m < 18446744073709551616 ∧ pre.length ≤ 10 ∧ Hid (kS n = pre ++ kS m) ∧ wr.ownsRow base 5 1 t0 (k + pre.length) (xs ++ idV pre) ∧ Below base w wr) (fun _ t1 _ => (intOf t1).toNat)
  case atStart => exact ⟨n, [], rfl, hn, by simp, Lib.hid rfl, by simpa [idV] using hown, qB _ _⟩
  case round =>
    obtain ⟨m, pre, rfl, hm, hpl, hP, hownr, hbr⟩ := hrel
    have hbs := hbr.size
    have hpl2 : pre.length + (kS m).length ≤ 10 := by
      have := H10.out
      rw [hP.out, List.length_append] at this
      exact this
    have hpos := ui m
    obtain ⟨A0, c0, hv0⟩ := kg hownr
    subst hv0
    by_cases h128 : m < 128
    ·
     have hsm := Zw h128
     have HSM := Lib.hid hsm; clear hsm
     go_wp2_with (at_builtin; refine Ko rfl _ _ 22 rfl base 5 (.int .u8 0) 1 Tryz.underlying22 kH rfl _ _ _ rfl hownr _ _ rfl rfl ?c1 ?c2 ?c3 ?_)
     case c1 => unfold maxLen; omega
     case c2 => omega
     case c3 => omega
     intro v' w3 hown3 hbel
     have hb3 := hbel base w (qR _) hbr
     clear hbel
     go_wp2_with fail
     go_ret
     refine ⟨_, rfl, ?_, hb3⟩
     rw [hP.out, HSM.out, List.length_append, List.length_singleton, ← Nat.add_assoc]
     have e : idV (pre ++ [UInt8.ofNat m]) = idV pre ++ [.int .u8 (m : Int)] := by
       simp only [idV, List.map_append, List.map_cons, List.map_nil]
       rw [u8_of (by omega)]
     rw [e]
     exact hown3
    ·
     go_wp2_with (at_builtin; refine Ko rfl _ _ 22 rfl base 5 (.int .u8 0) 1 Tryz.underlying22 kH rfl _ _ _ rfl hownr _ _ rfl rfl ?c1 ?c2 ?c3 ?_)
     case c1 => unfold maxLen; omega
     case c2 => omega
     case c3 => omega
     intro v' w3 hown3 hbel
     have hb3 := hbel base w (qR _) hbr
     clear hbel
     go_wp2_with fail
     go_roundw
     case rel =>
       refine ⟨m / 128, pre ++ [UInt8.ofNat (m % 128 + 128)], congrArg (Value.int .u64) (by omega), by omega, by rw [List.length_append, List.length_singleton]; omega, Lib.hid ?_, ?_, hb3⟩
       · rw [hP.out, uh h128]
         simp
       ·
        rw [List.length_append, List.length_singleton, ← Nat.add_assoc]
        have e : idV (pre ++ [UInt8.ofNat (m % 128 + 128)]) = idV pre ++ [.int .u8 (bits BinOp.or IntKind.u8 (IntKind.u8.wrap (m : Int)) 128)] := by
          simp only [idV, List.map_append, List.map_cons, List.map_nil]
          rw [u8_of (by omega)]
          rw [or128' m]
        rw [e]
        exact hown3
     case measure => simp [intOf]; omega
theorem own_nil (w : World) : Calls Tryz.prog 119 #[.slice none 0 0] w fun e w' => ∃ v, e = .returned v ∧ w'.ownsRow w.heap.size 5 1 v 0 [] ∧ Below w.heap.size w w' := by
  obtain ⟨i0, hi, hz0, hz1, hz2⟩ := info_parts kH
  have hmk : ∀ w, (Instr.makeSlice 22 (.int .i64 0) (.int .i64 16)).run Tryz.prog w = .ok (.slice (some ⟨w.heap.size, 0, none⟩) 0 16) (w.alloc (.cells (List.replicate 16 (Value.int .u8 0)).toArray 5)) := fun _ => by kernel_rfl
  go_enter Tryz.func119, Tryz.ntmps119
  go_wp2_with fail
  go_ret
  refine ⟨_, rfl, ?_, (qB _ _).alloc (qR _) _⟩
  exact World.ownsRow_made w (List.replicate 16 (Value.int .u8 0)).toArray 16 (qR _) (by unfold maxLen; omega) rfl
def PutGives (n : Nat) (w : World) (e : Ending) (w' : World) : Prop := ∃ v, e = .returned (.tuple #[v, .int .i64 0]) ∧ w'.ownsRow w.heap.size 5 1 v (kS n).length (idV (kS n)) ∧ Below w.heap.size w w'
theorem put_nil (n : Nat) (hn : n < 9223372036854775808) (w : World) : Calls Tryz.prog 92 #[.slice none 0 0, .int .i64 n] w (PutGives n w) := by
  have hn2 : (n : Int) ≤ 9223372036854775807 := by omega
  go_enter Tryz.func92, Tryz.ntmps92
  go_wp2_with fail
  refine (own_nil _).mono ?_
  rintro e w1 ⟨v, rfl, hown, hb1⟩
  go_wp2_with fail
  refine (UO n (by omega) v 0 [] w.heap.size _ hown hb1.size (by omega)).mono ?_
  rintro e w2 ⟨v', rfl, hown2, hb2⟩
  go_wp2_with fail
  go_ret2
  rw [qZ, List.nil_append] at hown2
  exact ⟨v', rfl, hown2, hb1.trans hb2⟩
def Qx (s : ByteArray) (w : World) (e : Ending) (w' : World) : Prop := ∃ v, e = .returned v ∧ w'.ownsRow w.heap.size 5 1 v (kJ (L s)).length (idV (kJ (L s))) ∧ Below w.heap.size w w'
theorem putText_nil (s : ByteArray) (hs : s.size ≤ 1099511627776) (w : World) : Calls Tryz.prog 93 #[.slice none 0 0, .string s] w (Qx s w) := by
  have hn2 : (s.size : Int) ≤ 9223372036854775807 := by omega
  go_enter Tryz.func93, Tryz.ntmps93
  go_wp2_with fail
  refine (own_nil _).mono ?_
  rintro e w1 ⟨v, rfl, hown, hb1⟩
  go_wp2_with fail
  refine (UO s.size (by omega) v 0 [] w.heap.size _ hown hb1.size (by omega)).mono ?_
  rintro e w2 ⟨v', rfl, hown2, hb2⟩
  rw [qZ, List.nil_append] at hown2
  have h10 := kU (n := s.size) (by omega)
  obtain ⟨i0, hi, hz0, hz1, hz2⟩ := info_parts kH
  go_wp2_with (at_builtin; refine Lib.wpList_append_own_string _ rfl _ _ 22 9 rfl w.heap.size 5 i0 Tryz.underlying22 Tryz.underlying9 hi hz0 hz1 hz2 _ _ _ rfl hown2 s rfl ?c1 ?c2 ?c3 ?_)
  case c1 => unfold maxLen; omega
  case c2 => omega
  case c3 => have := hb1.size; have := hb2.size; omega
  intro v3 w3 hown3 hgr3 _
  have hb12 := hb1.trans hb2
  have hb3 := hb12.grown hgr3 hb12.size (fun k hk => (hown2.lt k hk).1)
  go_wp2_with fail
  go_ret
  refine ⟨v3, rfl, ?_, hb3⟩
  unfold kJ
  rw [List.length_append, jW, ZC]
  exact hown3
end Go.Proofs.YthjaepmfkgejkaaGreatDoor
namespace Go.Proofs.YthjaepmfkgejkaaGreatDoor
open Go.RowKit
theorem splice_is {A M B C : List Value} (hB : B.length = M.length) (v : Value) (hv : v.cells.toList = B) :
    v.cells.zipIdx.foldl (fun cs (x : Value × Nat) => cs.setIfInBounds (A.length + x.2) x.1) (A ++ (M ++ C)).toArray = (A ++ (B ++ C)).toArray := by
  obtain ⟨g1, g2⟩ := Go.Great.foldl_set A.length v.cells.toList 0 (A ++ (M ++ C)).toArray
  rw [← Array.foldl_toList, Array.toList_zipIdx]
  apply Array.ext_getElem?
  intro k
  rw [g2 k, hv]
  simp only [Nat.add_zero, List.size_toArray, List.length_append, List.getElem?_toArray]
  by_cases h1 : k < A.length
  · rw [if_neg (by omega), List.getElem?_append_left h1, List.getElem?_append_left h1]
  · by_cases h2 : k < A.length + B.length
    · rw [if_pos (by omega), List.getElem?_append_right (by omega), List.getElem?_append_left (by omega)]
    · rw [if_neg (by omega), List.getElem?_append_right (by omega), List.getElem?_append_right (by omega), List.getElem?_append_right (by omega), List.getElem?_append_right (by omega), hB]
theorem U7 (place : Nat → Option (Nat × Nat)) : ∀ (parts : List (Nat × Value)) (ch : List (List Value)), (∀ i (h : i < ch.length), place i = some ((ch.take i).flatten.length, ch[i].length)) →
    (∀ p ∈ parts, ∃ h : p.1 < ch.length, p.2.cells.size = ch[p.1].length) → Instr.fill place ch.flatten.toArray parts = some ((parts.foldl (fun c p => c.set p.1 p.2.cells.toList) ch).flatten.toArray)
  | [], ch, _, _ => rfl
  | (i, v) :: rest, ch, hp, hs => by
    obtain ⟨hi, hsz⟩ := hs (i, v) (by simp)
    have hi' : i < ch.length := hi
    have hsz' : v.cells.size = ch[i].length := hsz
    have hsplit : ch = ch.take i ++ (ch[i] :: ch.drop (i + 1)) := by
      rw [← List.drop_eq_getElem_cons hi', List.take_append_drop]
    have hfl : ch.flatten = (ch.take i).flatten ++ (ch[i] ++ (ch.drop (i + 1)).flatten) := by
      have h := congrArg List.flatten hsplit
      rw [List.flatten_append, List.flatten_cons] at h
      exact h
    have hset : (ch.set i v.cells.toList).flatten = (ch.take i).flatten ++ (v.cells.toList ++ (ch.drop (i + 1)).flatten) := by
      rw [List.set_eq_take_append_cons_drop, if_pos hi']
      simp
    unfold Instr.fill
    simp only [hp i hi']
    rw [if_neg (by
      simp only [hsz', ne_eq, not_true_eq_false, decide_false, Bool.false_or, decide_eq_true_eq, List.size_toArray, Nat.not_lt]
      rw [hfl]; simp)]
    rw [show (v.cells.zipIdx.foldl (fun cs (x : Value × Nat) => cs.setIfInBounds ((ch.take i).flatten.length + x.2) x.1) ch.flatten.toArray) = (ch.set i v.cells.toList).flatten.toArray by
      rw [hset, hfl]
      exact splice_is (by simpa using hsz') v rfl]
    have hlen : ∀ k (h : k < (ch.set i v.cells.toList).length), (ch.set i v.cells.toList)[k].length = (ch[k]'(by simpa using h)).length := by
      intro k h
      rw [List.getElem_set]
      split
      · rename_i e; subst e; simpa using hsz'
      · rfl
    refine (U7 place rest (ch.set i v.cells.toList) ?_ ?_).trans rfl
    ·
     intro k hk
     have hk' : k < ch.length := by simpa using hk
     rw [hp k hk', hlen k hk]
     congr 2
     have : ∀ n, n ≤ ch.length → (((ch.set i v.cells.toList).take n).flatten).length = ((ch.take n).flatten).length := by
       intro n
       induction n with
       | zero => intro _; rfl
       | succ n ih =>
         intro hn
         rw [List.take_succ_eq_append_getElem (by simp; omega), List.take_succ_eq_append_getElem (by omega)]
         simp only [List.flatten_append, List.length_append, ih (by omega), List.flatten_cons, List.flatten_nil, List.append_nil]
         rw [hlen n (by simp; omega)]
     exact (this k (by omega)).symm
    ·
     intro p hpm
     obtain ⟨h1, h2⟩ := hs p (by simp [hpm])
     refine ⟨by simpa using h1, ?_⟩
     rw [h2, hlen]
theorem uu {P : Program} {t : TypeId} {i : TypeInfo} {fs : Array Field} (hi : P.info? t = some i) (hu : P.underlying t = some (.struct fs)) {z : Value} (hz : i.zero = some z) (ch : List (List Value)) (hc : z.cells.toList = ch.flatten)
    {places : List (Nat × Nat)} (hpl : fs.toList.mapM (fun f => (P.info? f.type).map fun i => (f.offset, i.size)) = some places) (hp : places = (List.range ch.length).map fun k => (((ch.take k).flatten.length), (ch.getD k []).length))
    (parts : List (Nat × Value)) (hs : ∀ p ∈ parts, ∃ h : p.1 < ch.length, p.2.cells.size = ch[p.1].length) : P.built t parts = some ((parts.foldl (fun c p => c.set p.1 p.2.cells.toList) ch).flatten.toArray) := by
  unfold Program.built
  simp only [hi, hu, hz, hpl]
  rw [show z.cells = ch.flatten.toArray by rw [← hc]]
  refine U7 _ parts ch (fun k hk => ?_) hs
  rw [hp]
  simp [hk, List.getD_eq_getElem?_getD]
theorem Jx {P : Program} (w : World) (t e : TypeId) (ht : P.underlying t = some (.slice e)) (z : Value) (size bytes : Nat) (hinf : (P.info? e).map (fun i => (i.zero, i.size, i.bytes)) = some (some z, size, bytes)) (hz1 : z.cells.size = size) (hsz : 0 < size)
    (vs : List Value) (hv : ∀ v ∈ vs, v.cells.size = size) (hn0 : 0 < vs.length) (hmax : vs.length * size ≤ 16777216) :
    (Instr.buildSlice t vs.length ((vs.zipIdx 0).map fun x => (x.2, x.1)).toArray).run P w = .ok (.slice (some ⟨w.heap.size, 0, none⟩) vs.length vs.length) (w.alloc (.cells (vs.flatMap fun v => v.cells.toList).toArray e)) := by
  obtain ⟨i, hi, hi0, hi1, hi2⟩ : ∃ i, P.info? e = some i ∧ i.zero = some z ∧ i.size = size ∧ i.bytes = bytes := by
    cases hq : P.info? e with
    | none => simp [hq] at hinf
    | some i => simp [hq] at hinf; exact ⟨i, rfl, hinf.1, hinf.2.1, hinf.2.2⟩
  have hpos : vs.length * size ≠ 0 := Nat.mul_ne_zero (by omega) (by omega)
  have hne : ¬ (vs.length * size > 2 ^ 24) := by omega
  have hfill : Instr.fill (fun k => some (k * size, size)) ((Array.range (vs.length * size)).map (z.cells[· % z.cells.size]!)) ((vs.zipIdx 0).map fun x => (x.2, x.1)) = some (vs.flatMap fun v => v.cells.toList).toArray :=
    Go.Great.fill_whole hsz vs _ hv (by simp)
  unfold Instr.buildSlice
  have hsize : (sizeOf e).run P w = .ok size w := by simp [sizeOf, typeInfo, hi, hi1]
  have hzero : (zeroValue e).run P w = .ok z w := by simp [zeroValue, typeInfo, hi, hi0]
  simp only [Sem.run_bind, run_underlying ht, Result.andThen_ok, hsize, if_neg hne, if_neg hpos, hzero, Sem.run_pure, hfill]
  rfl
theorem za {P : Program} {ops : Array Oper} {rest : List Oper} {o : Oper} {a : Act} {w : World} {Q : Exit → Act → World → Prop} (hw : Region.wanted o (yielded ops a.tmps) = true) (t : TypeId) (x : Operand) (ho : o.op = .buildSlice t 1 #[(0, x)])
    (e : TypeId) (ht : P.underlying t = some (.slice e)) (z : Value) (size bytes : Nat) (hinf : (P.info? e).map (fun i => (i.zero, i.size, i.bytes)) = some (some z, size, bytes)) (hz1 : z.cells.size = size) (hsz : 0 < size) (hmax : size ≤ 16777216)
    (us : List Value) (hl : us.length = size) (hx : a.eval x = .agg us.toArray)
    (h : wpList P ops Q rest (a.put o.dst (.slice (some ⟨w.heap.size, 0, none⟩) 1 1)) (w.alloc (.cells us.toArray e))) : wpList P ops Q (o :: rest) a w := by
  have hrun := Jx w t e ht z size bytes hinf hz1 hsz [.agg us.toArray] (fun v hv => by rw [List.mem_singleton.1 hv]; exact hl) (by simp) (by simpa using hmax)
  simp only [List.flatMap_cons, List.flatMap_nil, List.append_nil] at hrun
  refine BigFrame.wpList_want hw fun K hK => ?_
  have := hK _ _ h
  unfold Oper.wp execOp
  simp only [ho, List.map_toArray, List.map_cons, List.map_nil, hx, Sem.run_bind]
  have h2 : (Instr.buildSlice t 1 #[(0, .agg us.toArray)]).run P w = .ok (.slice (some ⟨w.heap.size, 0, none⟩) 1 1) (w.alloc (.cells us.toArray e)) := hrun
  rw [h2]
  exact this
end Go.Proofs.YthjaepmfkgejkaaGreatDoor
namespace Go.Proofs.YthjaepmfkgejkaaGreatDoor
open Go.RowKit Go.Maps
theorem ex_build1c {P : Program} {ρ : Operand → Value} {o : Oper} {w : World} (t : TypeId) (x : Operand) (ho : o.op = .buildSlice t 1 #[(0, x)]) (e : TypeId) (ht : P.underlying t = some (.slice e)) (z : Value) (bytes : Nat) (hinf : (P.info? e).map (fun i => (i.zero, i.size, i.bytes)) = some (some z, 1, bytes)) (hz1 : z.cells.size = 1)
    (v : Value) (hx : ρ x = v) (hv : v.cells = #[v]) : (execOp ρ o).run P w = .ok (.value (.slice (some ⟨w.heap.size, 0, none⟩) 1 1)) (w.alloc (.cells #[v] e)) := by
  have hrun := Jx w t e ht z 1 bytes hinf hz1 (by decide) [v] (fun u hu => by rw [List.mem_singleton.1 hu, hv]; rfl) (by simp) (by simp)
  simp only [List.flatMap_cons, List.flatMap_nil, List.append_nil, hv] at hrun
  unfold execOp
  have h2 : (Instr.buildSlice t 1 #[(0, v)]).run P w = .ok (.slice (some ⟨w.heap.size, 0, none⟩) 1 1) (w.alloc (.cells #[v] e)) := hrun
  simp only [ho, List.map_toArray, List.map_cons, List.map_nil, hx, Sem.run_bind, h2, Result.andThen_ok, Sem.run_pure]
end Go.Proofs.YthjaepmfkgejkaaGreatDoor
namespace Go.Proofs.YthjaepmfkgejkaaGreatDoor
open Go.RowKit Go.Maps
theorem Z6 {P : Program} {o : Oper} {a : Act} {K : Act → World → Prop} {Q : Exit → Act → World → Prop} {w : World} (s x : Operand) (t : TypeId)
    (ho : o.op = .call { callee := .builtin .append, args := #[s, x], argTypes := #[t, t] })
    (base : Nat) (e : TypeId) (z : Value) (size bytes : Nat) (ht : P.underlying t = some (.slice e)) (hinf : (P.info? e).map (fun i => (i.zero, i.size, i.bytes)) = some (some z, size, bytes))
    (hz1 : z.cells.size = size) (hsz : 0 < size) (v : Value) (n : Nat) (xs : List Value) (hs : a.eval s = v) (hown : w.ownsRow base e size v n xs)
    (A : Addr) (m c : Nat) (news : List Value) (hx : a.eval x = .slice (some A) m c) (hl : news.length = m * size) (hnews : ∀ j u, news[j]? = some u → w.cell? (A.add j) = some u) (h1 : ∀ u ∈ news, u.oneCell' = true)
    (hn : n + m ≤ maxLen) (hb : (n + m) * bytes ≤ 140737488355328) (hbase : base ≤ w.heap.size)
    (h : ∀ v' w', w'.ownsRow base e size v' (n + m) (xs ++ news) → w.grownBy w' v.ownBlock → ur w.heap.size v v' → K (a.put o.dst v') w') : o.wp P a w K Q := by
  obtain ⟨i0, hi, hz0, hz2, hz3⟩ := info_parts hinf
  obtain ⟨v', w', hr, hown', hgrow, _⟩ := run_append_own (P := P) w base t o.type e i0 z size bytes ht hi hz0 hz2 hz3 hz1 hsz v n xs hown A m c news hl hnews h1 hn hb hbase
  have hwh := Zl (P := P) (w := w) base t o.type e i0 z size bytes ht hi hz0 hz2 hz3 hz1 hsz v n xs hown A m c news hl hnews h1 hn hb hr
  unfold Oper.wp execOp
  simp only [ho, resolve, invoke, builtin, Sem.run_bind, Sem.run_pure, Result.andThen_ok, List.map_toArray, List.map_cons, List.map_nil, hs, hx, hr]
  exact h v' w' hown' hgrow hwh
def WrAt (w : World) (g : Nat) (xs : List UInt8) : Prop := ∃ v, w.heap[g]? = some (.cells #[v] 76 (0, 0)) ∧ w.ownsRow (g + 1) 5 1 v xs.length (idV xs)
def WrX (w : World) (g k : Nat) : Prop := k = g ∨ ∃ v T z, w.heap[g]? = some (.cells #[v] T z) ∧ v.ownBlock = some k
def WrGo (g : Nat) (w w' : World) : Prop := But (WrX w g) w w' ∧ ∀ i, i < w.heap.size → WrX w' g i → WrX w g i
section
variable {g : Nat} {xs ys : List UInt8} {w w' w1 w2 : World}
theorem WrAt.lt (h : WrAt w g xs) : g < w.heap.size := by
  obtain ⟨v, h1, _⟩ := h
  exact (qX h1)
theorem WrX.at_ {v : Value} {T : TypeId} {z : Nat × Nat} (h : w.heap[g]? = some (.cells #[v] T z)) {k : Nat} (hx : WrX w g k) : k = g ∨ v.ownBlock = some k := by
  rcases hx with q | ⟨v', T', z', h', q⟩
  · exact .inl q
  ·
   rw [h] at h'
   injection h' with h'
   injection h' with h' _ _
   injection h' with h'
   injection h' with h' _
   subst h'
   exact .inr q
theorem WrAt.low (h : WrAt w g xs) {k : Nat} (hk : k < g) : ¬ WrX w g k := by
  obtain ⟨v, h1, h2⟩ := h
  intro hx
  rcases hx.at_ h1 with q | q
  · omega
  · have := (h2.lt k q).1; omega
theorem WrAt.fresh (h : WrAt w g xs) {k : Nat} (hk : w.heap.size ≤ k) : ¬ WrX w g k := by
  have hlt := h.lt
  obtain ⟨v, h1, h2⟩ := h
  intro hx
  rcases hx.at_ h1 with q | q
  · omega
  · have := (h2.lt k q).2; omega
theorem WrGo.refl (g : Nat) (w : World) : WrGo g w w := ⟨But.refl _ _, fun _ _ h => h⟩
theorem WrGo.trans (h : WrGo g w w1) (k : WrGo g w1 w2) : WrGo g w w2 :=
  ⟨h.1.trans k.1 fun i hi hx => h.2 i hi hx, fun i hi hx => h.2 i hi (k.2 i (qL hi h.1.size) hx)⟩
theorem WrGo.below (hg : g < w.heap.size) (h : Below w.heap.size w w') : WrGo g w w' :=
  ⟨But.of_below h, fun i hi hx => by
    rcases hx with q | ⟨v, T, z, h1, q⟩
    · exact .inl q
    · exact .inr ⟨v, T, z, (h.block g hg).symm.trans h1, q⟩⟩
theorem WrAt.keep (h : WrAt w g xs) (hb : Below w.heap.size w w') : WrAt w' g xs := by
  have hlt := h.lt
  obtain ⟨v, h1, h2⟩ := h
  exact ⟨v, (hb.block g hlt).trans h1, (But.of_below (X := NoB) hb).own h2 fun _ _ q => q⟩
theorem WrAt.newNot (h : WrAt w g xs) (hb : Below w.heap.size w w') {k : Nat} (hk : w.heap.size ≤ k) : ¬ WrX w' g k := by
  intro hx
  refine h.fresh hk ?_
  rcases hx with q | ⟨v, T, z, h1, q⟩
  · exact .inl q
  · exact .inr ⟨v, T, z, (hb.block g h.lt).symm.trans h1, q⟩
theorem WrAt.keepNot (h : WrAt w g xs) (hb : Below w.heap.size w w') {k : Nat} (hk : ¬ WrX w g k) : ¬ WrX w' g k := by
  intro hx
  refine hk ?_
  rcases hx with q | ⟨v, T, z, h1, q⟩
  · exact .inl q
  · exact .inr ⟨v, T, z, (hb.block g h.lt).symm.trans h1, q⟩
theorem WrGo.apart (h : WrGo g w w') {k : Nat} (hk : k < w.heap.size) (hx : ¬ WrX w g k) : w'.heap[k]? = w.heap[k]? ∧ ¬ WrX w' g k := ⟨h.1.block k hk hx, fun q => hx (h.2 k hk q)⟩
theorem WrGo.cell (h : WrGo g w w') {k j : Nat} (hk : k < w.heap.size) (hx : ¬ WrX w g k) : w'.cell? ⟨k, j, none⟩ = w.cell? ⟨k, j, none⟩ := h.1.cell hk hx
theorem WrGo.belowG (h : WrGo g w w') (hw : WrAt w g xs) : Below g w w' := h.1.below (Nat.le_of_lt hw.lt) fun k hk => hw.low hk
theorem WrAt.put {v v' : Value} (h1 : w.heap[g]? = some (.cells #[v] 76 (0, 0))) (h2 : w.ownsRow (g + 1) 5 1 v xs.length (idV xs)) (hb : Below w.heap.size w w1) (ho : w2.ownsRow (g + 1) 5 1 v' (xs.length + ys.length) (idV xs ++ idV ys))
    (hg : w1.grownBy w2 v.ownBlock) (hw : ur w1.heap.size v v') : w2.cell? ⟨g, 0, none⟩ = some v ∧ w2.frozen? ⟨g, 0, none⟩ = false ∧ WrAt (w2.setCell ⟨g, 0, none⟩ v') g (xs ++ ys) ∧ WrGo g w (w2.setCell ⟨g, 0, none⟩ v') := by
  have hlt := (qX h1)
  have hlt1 := qL hlt hb.size
  have hne : v.ownBlock ≠ some g := fun e => by have := (h2.lt g e).1; omega
  have hne' : v'.ownBlock ≠ some g := fun e => by have := (ho.lt g e).1; omega
  have hg2 : w2.heap[g]? = some (.cells #[v] 76 (0, 0)) := ((hg.block g hlt1 (fun e => hne e.symm)).trans (hb.block g hlt)).trans h1
  have hset : (w2.setCell ⟨g, 0, none⟩ v').heap[g]? = some (.cells #[v'] 76 (0, 0)) := by
    obtain ⟨hl2, he2⟩ := Array.getElem?_eq_some_iff.1 hg2
    simp [World.setCell, Array.getElem?_modify, hg2]
  refine ⟨?_, ?_, ⟨v', hset, ?_⟩, ?_, ?_⟩
  · simp [World.cell?, hg2]
  · simp [World.frozen?, hg2]
  ·
   have hbut : But (fun k => k = g) w2 (w2.setCell ⟨g, 0, none⟩ v') := But.setCell (X := fun k => k = g) (But.refl _ _) (p := ⟨g, 0, none⟩) (fun _ => rfl) v'
   have := hbut.own ho fun k hk e => hne' (by rw [hk, e])
   rw [List.length_append, ZC]
   exact this
  · refine But.setCell (But.grown (But.of_below hb) hg fun k hk _ => .inr ⟨v, _, _, h1, hk⟩) (fun _ => .inl rfl) v'
  ·
   intro i hi hx
   rcases hx.at_ hset with q | q
   · exact .inl q
   ·
    rcases hw with e | ⟨k, e, hk⟩
    · exact .inr ⟨v, _, _, h1, by rw [← e]; exact q⟩
    ·
     rw [e] at q
     injection q with q
     have := hb.size
     omega
end
theorem uv {w : World} {base : Nat} {e : TypeId} {sz : Nat} {v : Value} {n : Nat} {xs : List Value} (h : w.ownsRow base e sz v n xs) (hn : 0 < n) : ∃ k c, v = .slice (some ⟨k, 0, none⟩) n c ∧ ∀ j u, xs[j]? = some u → w.cell? ((⟨k, 0, none⟩ : Addr).add j) = some u := by
  rcases h.2 with ⟨_, h0⟩ | ⟨k, cap, cur, rfl, r⟩
  · omega
  · exact ⟨k, cap, rfl, h.cells rfl⟩
end Go.Proofs.YthjaepmfkgejkaaGreatDoor
namespace Go.Proofs.YthjaepmfkgejkaaGreatDoor
open Lib (hid)
open Go.RowKit Go.Maps
theorem KX (g n : Nat) (xs : List UInt8) (w : World) (hw : WrAt w g xs) (hn : n < 9223372036854775808) (hx : xs.length ≤ 1099511627776) :
    Calls Tryz.prog 66 #[.pointer (some ⟨g, 0, none⟩), .int .i64 (n : Int)] w fun e w' => e = .returned (.tuple #[]) ∧ WrAt w' g (xs ++ kS n) ∧ WrGo g w w' := by
  have HLT := hid hw.lt
  obtain ⟨v, hhg, how⟩ := hw
  have HHG := hid hhg; have HOW := hid how
  have HCV := hid (show w.cell? ⟨g, 0, none⟩ = some v from k5 hhg 0)
  clear hhg how
  have hlen := kU (n := n) (by omega)
  have hpos := ui n
  have HWF : IntKind.u64.wrap (n : Int) = (n : Int) := IntWalk.u64_in _ ⟨by omega, by omega⟩
  clear HWF
  go_enter Tryz.func66, Tryz.ntmps66
  go_wp2_with (first
    | (go_at_call 92; refine (put_nil n hn w).mono ?_; rintro e w1 ⟨v1, rfl, ho1, hb1⟩
       obtain ⟨k1, c1, rfl, hcs1⟩ := uv ho1 hpos
       have HC1 := hid hcs1
       have HB1 := hid hb1
       have hc1 : w1.cell? ⟨g, 0, none⟩ = some v := (hb1.cell (p := ⟨g, 0, none⟩) HLT.out).trans HCV.out
       have HOW1 := hid ((But.of_below (X := NoB) hb1).own HOW.out fun _ _ q => q)
       have HSZ1 := hid hb1.size
       clear hcs1 ho1 hb1)
    | (refine Jd (by rfl) _ _ 22 rfl (g + 1) 5 (.int .u8 0) 1 1 Tryz.underlying22 kH rfl (by decide) v xs.length (idV xs) rfl HOW1.out ⟨k1, 0, none⟩ (kS n).length c1 (idV (kS n)) rfl (by rw [k8, Nat.mul_one]) HC1.out (ky _) (by unfold maxLen; omega) (by omega) (Nat.le_trans HLT.out HSZ1.out) ?_
       intro v9 w9 ho9 hg9 hw9
       obtain ⟨A9, c9, rfl⟩ := kg ho9
       obtain ⟨cg, cf, hat, hgo⟩ := WrAt.put HHG.out HOW.out HB1.out ho9 hg9 hw9
       have HAT := hid hat; have HGO := hid hgo
       clear ho9 hg9 hw9 hat hgo))
  go_end0
  exact ⟨rfl, HAT.out, HGO.out⟩
theorem Zn (g : Nat) (s : ByteArray) (xs : List UInt8) (w : World) (hw : WrAt w g xs) (hs : s.size ≤ 1099511627776) (hx : xs.length ≤ 1099511627776) :
    Calls Tryz.prog 68 #[.pointer (some ⟨g, 0, none⟩), .string s] w fun e w' => e = .returned (.tuple #[]) ∧ WrAt w' g (xs ++ kJ (L s)) ∧ WrGo g w w' := by
  have HLT := hid hw.lt
  obtain ⟨v, hhg, how⟩ := hw
  have HHG := hid hhg; have HOW := hid how
  have HCV := hid (show w.cell? ⟨g, 0, none⟩ = some v from k5 hhg 0)
  clear hhg how
  have hlen : (kJ (L s)).length ≤ 10 + s.size := by
    have := kU (n := (L s).length) (by rw [jW]; omega)
    unfold kJ
    rw [List.length_append, jW]
    rw [jW] at this
    omega
  have hpos : 0 < (kJ (L s)).length := by
    have := ui (L s).length
    unfold kJ
    rw [List.length_append]
    omega
  have hE1 := enE Tryz.func93 rfl
  go_enter Tryz.func68, Tryz.ntmps68
  go_upto_region 0 with fail
  refine rN 10 (fun u => u.cell? ⟨g, 0, none⟩ = some v) (HCV.out) fun hF0 => ?_
  refine tw 0 (.pointer (some ⟨g, 0, none⟩)) ?_
  go_frame
  refine tw 1 (.pointer (some ⟨g, 0, none⟩)) ?_
  go_frame
  refine tw 2 (.pointer (some ⟨g, 0, none⟩)) ?_
  go_frame
  refine tw 3 (.pointer (some ⟨g, 0, none⟩)) ?_
  go_frame
  refine tl 4 (v) rfl hF0 (fun w' hw' => l1 Tryz.underlying22 hw') ?_
  go_frame
  refine tw 5 (.string s) ?_
  go_frame
  refine ta 6 ?_
  refine tc #[.slice none 0 0, .string s] hE1 rfl ?_
  refine (putText_nil s hs w.drew).mono ?_
  rintro e w1 ⟨v1, rfl, ho1, hb1⟩
  replace hb1 : Below w.heap.size w w1 := ((Below.refl _ _).drew).trans hb1
  obtain ⟨k1, c1, rfl, hcs1⟩ := uv ho1 hpos
  have HC1 := hid hcs1
  have HB1 := hid hb1
  have hc1 : w1.cell? ⟨g, 0, none⟩ = some v := (hb1.cell (p := ⟨g, 0, none⟩) HLT.out).trans HCV.out
  have HOW1 := hid ((But.of_below (X := NoB) hb1).own HOW.out fun _ _ q => q)
  have HSZ1 := hid hb1.size
  clear hcs1 ho1 hb1
  refine ⟨_, rfl, fun _ _ => hc1, ?_⟩
  go_frame
  refine ta 7 ?_
  refine Jz _ rfl (by kernel_rfl) ?_
  refine Z6 _ _ 22 rfl (g + 1) 5 (.int .u8 0) 1 1 Tryz.underlying22 kH rfl (by decide) v xs.length (idV xs) rfl HOW1.out ⟨k1, 0, none⟩ (kJ (L s)).length c1 (idV (kJ (L s))) rfl (by rw [k8, Nat.mul_one]) HC1.out (ky _) (by unfold maxLen; omega) (by omega) (Nat.le_trans HLT.out HSZ1.out) ?_
  intro v9 w9 ho9 hg9 hw9
  obtain ⟨A9, c9, rfl⟩ := kg ho9
  obtain ⟨cg, cf, hat, hgo⟩ := WrAt.put HHG.out HOW.out HB1.out ho9 hg9 hw9
  have HAT := hid hat; have HGO := hid hgo
  clear ho9 hg9 hw9 hat hgo
  refine ⟨fun _ _ => cg, ?_⟩
  go_frame
  refine tw 8 (.pointer (some ⟨g, 0, none⟩)) ?_
  go_frame
  refine tw 9 (.pointer (some ⟨g, 0, none⟩)) ?_
  go_frame
  refine ta 10 ?_
  refine zD _ rfl (by kernel_rfl) (Jb 22 _ _ rfl g 0 (.slice A9 (xs.length + (kJ (L s)).length) c9) rfl rfl rfl rfl (by kernel_rfl) cg cf) ?_
  refine ⟨fun h => absurd h (by decide), ?_⟩
  go_frame
  refine kv (by kernel_rfl) ?_ _
  go_wp2_with fail
  go_end0
  exact ⟨rfl, HAT.out, HGO.out⟩
end Go.Proofs.YthjaepmfkgejkaaGreatDoor
