/-
  What leb.Put and leb.PutText give behind nothing. Conditions: a number below 2^63; a text of at most 2^40 bytes.
  Steps of a region that draws its order, taken by hand: a call, a new variable, a look into a map, an append of a slice, a store into one cell. Over any program; conditions as each says.
-/
import Derived.Test.YthjaepmfkgejkaaGreatDoorMerged7
import Derived.Laws.OwnMore
import Derived.Deep.AppendSrc
import Derived.Laws.AppendOwnNone
import Derived.Lib.AppendStr
import Derived.Test.YthjaepmfkgejkaaGreatDoorMerged6
import Derived.Test.YthjaepmfkgejkaaGreatDoorMerged3
import Derived.Deep.MidRow
import Derived.Deep.RegionHeld
import Derived.OrdersHeld
import Derived.Laws.AppendOwn
set_option linter.unusedVariables false
set_option maxHeartbeats 4000000
set_option maxRecDepth 100000
namespace Go.Proofs.YthjaepmfkgejkaaGreatDoor
open Go.RowKit
theorem or128 : ∀ x : Fin 256, bits BinOp.or IntKind.u8 ((x.val : Nat) : Int) 128 = ((x.val % 128 + 128 : Nat) : Int) := by decide +kernel
theorem or128' (m : Nat) : bits BinOp.or IntKind.u8 (IntKind.u8.wrap (m : Int)) 128 = ((m % 128 + 128 : Nat) : Int) := by
  have e1 : IntKind.u8.wrap (m : Int) = ((m % 256 : Nat) : Int) := by
    show (m : Int) % 256 = _
    omega
  have h := or128 ⟨m % 256, by omega⟩
  simp only at h
  rw [e1, h, show m % 256 % 128 = m % 128 by omega]
theorem vJ (a b : List UInt8) : idV (a ++ b) = idV a ++ idV b := by simp [idV]
theorem kB {w : World} {base : Nat} {e : TypeId} {sz : Nat} {v : Value} {n : Nat} {xs : List Value} (h : w.ownsRow base e sz v n xs) : ∃ A c, v = .slice A n c := by
  rcases h.2 with ⟨hv, hn⟩ | ⟨g, cap, cur, hv, _⟩
  · exact ⟨none, 0, by rw [hv, hn]⟩
  · exact ⟨_, _, hv⟩
theorem je {n : Nat} (h : n < 18446744073709551616) : (kZ n).length ≤ 10 :=
  numB_len 10 n (by omega) (by have e : 128 ^ 10 = 1180591620717411303424 := by decide
                               omega)
theorem U8 (n : Nat) (hn : n < 18446744073709551616) (v : Value) (k : Nat) (xs : List Value) (base : Nat) (w : World) (hown : w.ownsRow base 5 1 v k xs) (hbase : base ≤ w.heap.size) (hk : k ≤ 1099511627776) :
    Calls Tryz.prog 118 #[v, .int .u64 n] w fun e w' => ∃ v', e = .returned v' ∧ w'.ownsRow base 5 1 v' (k + (kZ n).length) (xs ++ idV (kZ n)) ∧ Below base w w' := by
  have h10 := je hn
  have H10 := Lib.hid h10; clear h10
  go_enter Tryz.func118, Tryz.ntmps118
  go_wp2_with fail
  go_loopw [0, 1] (fun t0 t1 wr => ∃ (m : Nat) (pre : List UInt8), t1 = .int .u64 m ∧ m < 18446744073709551616 ∧ pre.length ≤ 10 ∧ Hid (kZ n = pre ++ kZ m) ∧ wr.ownsRow base 5 1 t0 (k + pre.length) (xs ++ idV pre) ∧ Below base w wr) (fun _ t1 _ => (intOf t1).toNat)
  case atStart => exact ⟨n, [], rfl, hn, by simp, Lib.hid rfl, by simpa [idV] using hown, Below.refl _ _⟩
  case round =>
    obtain ⟨m, pre, rfl, hm, hpl, hP, hownr, hbr⟩ := hrel
    have hbs := hbr.size
    have hpl2 : pre.length + (kZ m).length ≤ 10 := by
      have := H10.out
      rw [hP.out, List.length_append] at this
      exact this
    have hpos := vx m
    obtain ⟨A0, c0, hv0⟩ := kB hownr
    subst hv0
    by_cases h128 : m < 128
    ·
     have hsm := Jy h128
     have HSM := Lib.hid hsm; clear hsm
     go_wp2_with (at_builtin; refine JN rfl _ _ 22 rfl base 5 (.int .u8 0) 1 Tryz.underlying22 ja rfl _ _ _ rfl hownr _ _ rfl rfl ?c1 ?c2 ?c3 ?_)
     case c1 => unfold maxLen; omega
     case c2 => omega
     case c3 => omega
     intro v' w3 hown3 hbel
     have hb3 := hbel base w (Nat.le_refl _) hbr
     clear hbel
     go_wp2_with fail
     go_ret
     refine ⟨_, rfl, ?_, hb3⟩
     rw [hP.out, HSM.out, List.length_append, List.length_singleton, ← Nat.add_assoc]
     have e : idV (pre ++ [UInt8.ofNat m]) = idV pre ++ [.int .u8 (m : Int)] := by
       simp only [idV, List.map_append, List.map_cons, List.map_nil]
       rw [uK (by omega)]
     rw [e]
     exact hown3
    ·
     go_wp2_with (at_builtin; refine JN rfl _ _ 22 rfl base 5 (.int .u8 0) 1 Tryz.underlying22 ja rfl _ _ _ rfl hownr _ _ rfl rfl ?c1 ?c2 ?c3 ?_)
     case c1 => unfold maxLen; omega
     case c2 => omega
     case c3 => omega
     intro v' w3 hown3 hbel
     have hb3 := hbel base w (Nat.le_refl _) hbr
     clear hbel
     go_wp2_with fail
     go_roundw
     case rel =>
       refine ⟨m / 128, pre ++ [UInt8.ofNat (m % 128 + 128)], congrArg (Value.int .u64) (by omega), by omega, by rw [List.length_append, List.length_singleton]; omega, Lib.hid ?_, ?_, hb3⟩
       · rw [hP.out, Zs h128]
         simp
       ·
        rw [List.length_append, List.length_singleton, ← Nat.add_assoc]
        have e : idV (pre ++ [UInt8.ofNat (m % 128 + 128)]) = idV pre ++ [.int .u8 (bits BinOp.or IntKind.u8 (IntKind.u8.wrap (m : Int)) 128)] := by
          simp only [idV, List.map_append, List.map_cons, List.map_nil]
          rw [uK (by omega)]
          rw [or128' m]
        rw [e]
        exact hown3
     case measure => simp [intOf]; omega
theorem own_nil (w : World) : Calls Tryz.prog 119 #[.slice none 0 0] w fun e w' => ∃ v, e = .returned v ∧ w'.ownsRow w.heap.size 5 1 v 0 [] ∧ Below w.heap.size w w' := by
  obtain ⟨i0, hi, hz0, hz1, hz2⟩ := info_parts ja
  have hmk : ∀ w, (Instr.makeSlice 22 (.int .i64 0) (.int .i64 16)).run Tryz.prog w = .ok (.slice (some ⟨w.heap.size, 0, none⟩) 0 16) (w.alloc (.cells (List.replicate 16 (Value.int .u8 0)).toArray 5)) := fun _ => by kernel_rfl
  go_enter Tryz.func119, Tryz.ntmps119
  go_wp2_with fail
  go_ret
  refine ⟨_, rfl, ?_, (Below.refl _ _).alloc (Nat.le_refl _) _⟩
  exact World.ownsRow_made w (List.replicate 16 (Value.int .u8 0)).toArray 16 (Nat.le_refl _) (by unfold maxLen; omega) rfl
def PutGives (n : Nat) (w : World) (e : Ending) (w' : World) : Prop := ∃ v, e = .returned (.tuple #[v, .int .i64 0]) ∧ w'.ownsRow w.heap.size 5 1 v (kZ n).length (idV (kZ n)) ∧ Below w.heap.size w w'
theorem put_nil (n : Nat) (hn : n < 9223372036854775808) (w : World) : Calls Tryz.prog 92 #[.slice none 0 0, .int .i64 n] w (PutGives n w) := by
  have hn2 : (n : Int) ≤ 9223372036854775807 := by omega
  go_enter Tryz.func92, Tryz.ntmps92
  go_wp2_with fail
  refine (own_nil _).mono ?_
  rintro e w1 ⟨v, rfl, hown, hb1⟩
  go_wp2_with fail
  refine (U8 n (by omega) v 0 [] w.heap.size _ hown hb1.size (by omega)).mono ?_
  rintro e w2 ⟨v', rfl, hown2, hb2⟩
  go_wp2_with fail
  go_ret2
  rw [Nat.zero_add, List.nil_append] at hown2
  exact ⟨v', rfl, hown2, hb1.trans hb2⟩
def qi (s : ByteArray) (w : World) (e : Ending) (w' : World) : Prop := ∃ v, e = .returned v ∧ w'.ownsRow w.heap.size 5 1 v (kS (L s)).length (idV (kS (L s))) ∧ Below w.heap.size w w'
theorem putText_nil (s : ByteArray) (hs : s.size ≤ 1099511627776) (w : World) : Calls Tryz.prog 93 #[.slice none 0 0, .string s] w (qi s w) := by
  have hn2 : (s.size : Int) ≤ 9223372036854775807 := by omega
  go_enter Tryz.func93, Tryz.ntmps93
  go_wp2_with fail
  refine (own_nil _).mono ?_
  rintro e w1 ⟨v, rfl, hown, hb1⟩
  go_wp2_with fail
  refine (U8 s.size (by omega) v 0 [] w.heap.size _ hown hb1.size (by omega)).mono ?_
  rintro e w2 ⟨v', rfl, hown2, hb2⟩
  rw [Nat.zero_add, List.nil_append] at hown2
  have h10 := je (n := s.size) (by omega)
  obtain ⟨i0, hi, hz0, hz1, hz2⟩ := info_parts ja
  go_wp2_with (at_builtin; refine Lib.wpList_append_own_string _ rfl _ _ 22 9 rfl w.heap.size 5 i0 Tryz.underlying22 Tryz.underlying9 hi hz0 hz1 hz2 _ _ _ rfl hown2 s rfl ?c1 ?c2 ?c3 ?_)
  case c1 => unfold maxLen; omega
  case c2 => omega
  case c3 => have := hb1.size; have := hb2.size; omega
  intro v3 w3 hown3 hgr3 _
  have hb12 := hb1.trans hb2
  have hb3 := hb12.grown hgr3 hb12.size (fun k hk => (hown2.lt k hk).1)
  go_wp2_with fail
  go_ret
  refine ⟨v3, rfl, ?_, hb3⟩
  unfold kS
  rw [List.length_append, jV, vJ]
  exact hown3
end Go.Proofs.YthjaepmfkgejkaaGreatDoor
namespace Go.Proofs.YthjaepmfkgejkaaGreatDoor
open Go.RowKit Go.Maps
def Zr : List Oper → Nat → Option Oper
  | [], _ => none
  | o :: _, 0 => some o
  | _ :: l, n + 1 => Zr l n
theorem UK : ∀ (l : List Oper) (i : Nat), Zr l i = l[i]?
  | [], i => by simp [Zr]
  | o :: l, 0 => by simp [Zr]
  | o :: l, i + 1 => by simp [Zr, UK l i]
theorem KJ {ops : Array Oper} {i : Nat} {o : Oper} (h : Zr ops.toList i = some o) : ops[i]? = some o := by
  rw [UK, Array.getElem?_toList] at h
  exact h
theorem oper_wp_val {P : Program} {o : Oper} {a : Act} {w w' : World} {v : Value} {K : Act → World → Prop} {Q : Exit → Act → World → Prop} (h : (execOp a.eval o).run P w = .ok (.value v) w') (hk : K (a.put o.dst v) w') : o.wp P a w K Q := by
  unfold Oper.wp
  rw [h]
  exact hk
theorem qj {P : Program} {o : Oper} {a : Act} {w w' : World} {K : Act → World → Prop} {Q : Exit → Act → World → Prop} (h : (execOp a.eval o).run P w = .ok .skip w') (hk : K (a.put o.dst undef) w') : o.wp P a w K Q := by
  unfold Oper.wp
  rw [h]
  exact hk
theorem jo {P : Program} {ops : Array Oper} {Q : Exit → Act → World → Prop} {i : Nat} {K : Act → World → Prop} {a : Act} {w w' : World} {v : Value} (o : Oper) (hi : Zr ops.toList i = some o) (hw : Region.wanted o (yielded ops a.tmps) = true)
    (h : (execOp a.eval o).run P w = .ok (.value v) w') (hk : K (a.put o.dst v) w') : wpOp P ops Q i K a w := by
  unfold wpOp
  simp only [KJ hi, if_pos hw]
  exact .inl (oper_wp_val h hk)
theorem z6 {P : Program} {ops : Array Oper} {Q : Exit → Act → World → Prop} {i : Nat} {K : Act → World → Prop} {a : Act} {w w' : World} (o : Oper) (hi : Zr ops.toList i = some o) (hw : Region.wanted o (yielded ops a.tmps) = true)
    (h : (execOp a.eval o).run P w = .ok .skip w') (hk : K (a.put o.dst undef) w') : wpOp P ops Q i K a w := by
  unfold wpOp
  simp only [KJ hi, if_pos hw]
  exact .inl (qj h hk)
theorem kC {P : Program} {ops : Array Oper} {Q : Exit → Act → World → Prop} {i : Nat} {K : Act → World → Prop} {a : Act} {w : World} {f : FuncId} {args : Array Value} (o : Oper) (hi : Zr ops.toList i = some o) (hw : Region.wanted o (yielded ops a.tmps) = true)
    (h : (execOp a.eval o).run P w = .ok (.enter f args) w) (hc : Calls P f args w fun e w' => ∃ v, e = .returned v ∧ K (a.put o.dst v) w') : wpOp P ops Q i K a w := by
  unfold wpOp
  simp only [KJ hi, if_pos hw]
  refine .inl ?_
  unfold Oper.wp
  rw [h]
  exact hc.mono fun e w' ⟨v, he, hk⟩ => by subst he; exact hk
section
variable {P : Program} {ρ : Operand → Value} {o : Oper} {w : World}
theorem kv {f : FuncId} {xs : Array Operand} {ts : Array TypeId} {args : Array Value} (ho : o.op = .call { callee := .value (.func f), args := xs, argTypes := ts }) (hf : ρ (.func f) = .func (.func f) #[] #[]) (hE : ∀ args w, (callFunc f args).run P w = .ok (.enter f args) w) (ha : xs.map ρ = args) :
    (execOp ρ o).run P w = .ok (.enter f args) w := by
  unfold execOp
  simp only [ho, resolve, hf, Deferred.ofValue, ha, Array.empty_append, Sem.run_bind, Sem.run_pure, Result.andThen_ok, invoke, Array.append_empty, hE]
theorem KT {t : TypeId} {cs : Array Value} (ho : o.op = .alloc t) (hz : (zeroValue t).run P w = .ok (.agg cs) w) : (execOp ρ o).run P w = .ok (.value (.pointer (some ⟨w.heap.size, 0, none⟩))) (w.alloc (.cells cs t)) := by
  unfold execOp
  simp [ho, Instr.alloc, newVar, newRow, hz, Result.andThen, Sem.run_bind, Value.cells]
theorem J0 (t : TypeId) (x ix : Operand) (ho : o.op = .lookup t x ix true) {vm vk v : Value} {w' : World} (hx : ρ x = vm) (hk : ρ ix = vk) (h : (Instr.lookup t vm vk true).run P w = .ok v w') : (execOp ρ o).run P w = .ok (.value v) w' := by
  unfold execOp
  simp only [ho, hx, hk, Sem.run_bind, h, Result.andThen_ok, Sem.run_pure]
end
theorem MapV.look2 {P : Program} {K t e : TypeId} {κ : Type} {ok : κ → Prop} {val : κ → Value} {kl : κ → Lit} {w : World} {b n : Nat} {m : κ → Option Value} (E : KeyEnc P K ok val kl) (ht : P.underlying t = some (.map K e)) {z : Value} (hz : ∀ u : World, (zeroValue e).run P u = .ok z u) (h : MapV w P K ok kl b n m) {k0 : κ} (hk : ok k0) :
    (Instr.lookup t (.map (some b)) (val k0) true).run P w = .ok (.tuple #[(m k0).getD z, .bool (m k0).isSome]) w := by
  obtain ⟨D, h1, hm, h3, h4⟩ := h
  obtain ⟨v, ps, hrun, hv⟩ := h1.look_ok E.keyed ht (hz w) (zd := .held z) (zp := []) rfl (E.of k0 hk)
  have hv' : v = (m k0).getD z := by
    have e1 : (DataW.held v : DataW Value) = D.atKey (kl k0) (.held z) := congrArg Prod.fst (Option.some.inj hv)
    rcases hmk : m k0 with _ | u
    · have hh : has D (kl k0) = false := by rw [h3 k0 hk, hmk]; rfl
      rw [atKey_of_not_has hh] at e1
      injection e1
    · rw [h4 k0 u hk hmk] at e1
      injection e1
  rw [hrun, hv', h3 k0 hk]
theorem Zi {P : Program} {ops : Array Oper} {Q : Exit → Act → World → Prop} {i : Nat} {K : Act → World → Prop} {a : Act} {w : World} (o : Oper) (hi : Zr ops.toList i = some o) (hw : Region.wanted o (yielded ops a.tmps) = true)
    (h : o.wp P a w K Q) : wpOp P ops Q i K a w := by
  unfold wpOp
  simp only [KJ hi, if_pos hw]
  exact .inl h
section
variable {P : Program} {w : World}
theorem vK {o : Oper} {a : Act} {K : Act → World → Prop} {Q : Exit → Act → World → Prop} (s x : Operand) (t : TypeId)
    (ho : o.op = .call { callee := .builtin .append, args := #[s, x], argTypes := #[t, t] })
    (base : Nat) (e : TypeId) (i : TypeInfo) (z : Value) (size bytes : Nat) (ht : P.underlying t = some (.slice e)) (hi : P.info? e = some i) (hz : i.zero = some z)
    (hsize : i.size = size) (hby : i.bytes = bytes) (hzs : z.cells.size = size) (hsz : 0 < size)
    (v : Value) (n : Nat) (xs : List Value) (hs : a.eval s = v) (hown : w.ownsRow base e size v n xs)
    (A : Option Addr) (m c B : Nat) (news : List Value) (hx : a.eval x = .slice A m c) (hsl : Sl w B A m size news) (h1 : ∀ u ∈ news, u.oneCell' = true)
    (h63 : n + m ≤ maxLen) (hbytes : (n + m) * bytes ≤ 140737488355328) (hbase : base ≤ w.heap.size)
    (h : ∀ v' w', w'.ownsRow base e size v' (n + m) (xs ++ news) → w.grownBy w' v.ownBlock → K (a.put o.dst v') w') : o.wp P a w K Q := by
  have hnil : m = 0 → news = [] := fun h0 => List.eq_nil_of_length_eq_zero (by rw [hsl.1, h0, Nat.zero_mul])
  rcases A with _ | ad
  ·
   have hm : m = 0 := by
     rcases Nat.eq_zero_or_pos m with h0 | hp
     · exact h0
     · obtain ⟨b, off, e1, _⟩ := hsl.2 hp; cases e1
   subst hm
   obtain rfl := hnil rfl
   have hgr : w.grownBy w v.ownBlock := ⟨rfl, rfl, rfl, Nat.le_refl _, fun _ _ _ => rfl⟩
   have hle : ∃ A0 c0, v = .slice A0 n c0 ∧ n ≤ c0 := by
     rcases hown.2 with ⟨rfl, rfl⟩ | ⟨g, cap, cur, rfl, _, _, hnc, _⟩
     · exact ⟨_, _, rfl, Nat.le_refl _⟩
     · exact ⟨_, _, rfl, hnc⟩
   obtain ⟨A0, c0, rfl, hnc⟩ := hle
   have hr : (Builtin.append_ #[t, t] o.type #[.slice A0 n c0, .slice none 0 c]).run P w = .ok (.slice A0 n c0) w := by
     rcases A0 with _ | a0
     · simp [Builtin.append_, run_underlying ht, sizeOf, typeInfo, hi, Builtin.lenOf, Builtin.firstCells, hnc]
     · simp [Builtin.append_, run_underlying ht, sizeOf, typeInfo, hi, Builtin.lenOf, Builtin.firstCells, hnc, storeCells]
   unfold Oper.wp execOp
   simp only [ho, resolve, invoke, builtin, Sem.run_bind, Sem.run_pure, Result.andThen_ok, List.map_toArray, List.map_cons, List.map_nil, hs, hx, hr]
   exact h _ w (by simpa using hown) hgr
  ·
   refine wp_append_own w s x t ho base e i z size bytes ht hi hz hsize hby hzs hsz v n xs hs hown ad m c news hx hsl.1 ?_ h1 h63 hbytes hbase fun v' w' h2 h3 _ => h v' w' h2 h3
   intro j u hj
   rcases Nat.eq_zero_or_pos m with h0 | hp
   · rw [hnil h0] at hj; cases hj
   ·
    obtain ⟨b, off, e1, _, hc⟩ := hsl.2 hp
    obtain rfl := Option.some.inj e1
    rw [Addr.add_mid]
    exact hc j u hj
end
theorem J2 {P : Program} {o : Oper} {w : World} {ρ : Operand → Value} (ty : TypeId) (x y : Operand) (ho : o.op = .store ty x y) (g j : Nat) (v : Value) (hx : ρ x = .pointer (some ⟨g, j, none⟩)) (hy : ρ y = v) (h1 : v.oneCell' = true) (hv : v.cells = #[v])
    (hi : (P.info? ty).map (·.size) = some 1) {u : Value} (hc : w.cell? ⟨g, j, none⟩ = some u) (hf : w.frozen? ⟨g, j, none⟩ = false) : (execOp ρ o).run P w = .ok .skip (w.setCell ⟨g, j, none⟩ v) := by
  have h := run_storeCells_cells (P := P) g j [v] 0 w (fun i hi => by
      have : i = 0 := by simpa using hi
      subst this; simp [hc]) (fun i hi => by
      have : i = 0 := by simpa using hi
      subst this; simpa using hf) (fun q hq => by rw [List.mem_singleton.1 hq]; exact h1)
  have hset : w.setCells g (j + 0) [v] = w.setCell ⟨g, j, none⟩ v := rfl
  rw [hset] at h
  unfold execOp
  cases hq : P.info? ty with
  | none => simp [hq] at hi
  | some i =>
    have hs : i.size = 1 := by simpa [hq] using hi
    simp only [ho, hx, hy, Instr.storeAt, Instr.sureAddr, Sem.run_bind, Sem.run_pure, Result.andThen_ok]
    simp [storeVar, sizeOf, typeInfo, hq, hv, hs, h]
end Go.Proofs.YthjaepmfkgejkaaGreatDoor
