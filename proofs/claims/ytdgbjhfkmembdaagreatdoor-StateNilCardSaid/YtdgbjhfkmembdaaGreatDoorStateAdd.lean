/-
  A change is added to a state. Conditions: the state and the change lie in memory, small; the tables hold what the program's text lays.
-/
import Derived.Test.YtdgbjhfkmembdaaGreatDoorStateMid
import Derived.Test.YtdgbjhfkmembdaaGreatDoorStateAdd1
import Derived.Test.YtdgbjhfkmembdaaGreatDoorClone15
import Derived.Test.YtdgbjhfkmembdaaGreatDoorStateSize
import Derived.Test.YtdgbjhfkmembdaaGreatDoorStateAddNil
import Derived.Test.YtdgbjhfkmembdaaGreatDoorObjWrites3
namespace Go.Proofs.YtdgbjhfkmembdaaGreatDoor
open Go.RowKit Go.Maps
set_option linter.unusedVariables false
set_option linter.unusedSimpArgs false

/-- What adding gives. -/
def AddGives (w : World) (B s : Nat) (S S' : StateD) (q : StateL) (n : Int) (m : Nat) (e : Ending) (w' : World) : Prop := e = .returned (.int .i64 n) ∧ ∃ q', StateAt w' B s S' q' ∧ But (StX s S q) w w' ∧ NewerX w s S S' q q' ∧ q'.nd ≤ q.nd + m
theorem AddGives.same {w w' : World} {B s : Nat} {S : StateD} {q : StateL} {n : Int} {m : Nat} (h : StateAt w B s S q) (hb : Below w.heap.size w w') : AddGives w B s S S q n m (.returned (.int .i64 n)) w' := ⟨rfl, q, h.keep hb, But.of_below hb, NewerX.refl _ _ _ _, Nat.le_add_right _ _⟩
def chC (t : Int) (Ad : Option Addr) (nd cd : Nat) (au : ByteArray) (Ao : Option Addr) (no co : Nat) : List Value := [.int .i64 t, .slice Ad nd cd, .string au, .slice Ao no co]
def obC (t : Int) (Ad : Option Addr) (nd cd : Nat) (au : ByteArray) (Ao : Option Addr) (no co : Nat) : List Value := .int .u8 1 :: (chC t Ad nd cd au Ao no co ++ [.slice none 0 0, .slice none 0 0, .string noneS, .string noneS, .int .i64 0])
theorem obj_built15 (t : Int) (Ad : Option Addr) (nd cd : Nat) (au : ByteArray) (Ao : Option Addr) (no co : Nat) (w : World) : (Instr.build 70 #[(0, .int .u8 1), (1, .agg (chC t Ad nd cd au Ao no co).toArray)]).run Tryz.prog w = .ok (.agg (obC t Ad nd cd au Ao no co).toArray) w := by kernel_rfl
theorem chC_one (t : Int) (Ad : Option Addr) (nd cd : Nat) (au : ByteArray) (Ao : Option Addr) (no co : Nat) : ∀ u ∈ chC t Ad nd cd au Ao no co, u.oneCell' = true := by
  unfold chC
  intro u hu
  simp only [List.mem_cons, List.not_mem_nil, or_false] at hu
  rcases hu with rfl | rfl | rfl | rfl <;> rfl
/-- The object that a change is. -/
theorem change_obj {w : World} {B : Nat} {c : ChangeD} {Ad : Option Addr} {cd : Nat} {Ao : Option Addr} {co : Nat} (hok : ChangeOk c) (hops : ∀ x ∈ c.2.2.2, OpIn x) (hau : c.2.2.1.size ≤ maxLen) (h1 : Sl w B Ad c.2.1.length 32 (idsV c.2.1)) (h2 : Sl w B Ao c.2.2.2.length 70 (rowsV opV c.2.2.2)) : ObjIn w B (.agg (obC c.1 Ad c.2.1.length cd c.2.2.1 Ao c.2.2.2.length co).toArray) (1, c, noCommitD) :=
  ⟨⟨hok, (fun x hx => by cases hx), (fun x hx => by cases hx), (by decide : (Lit.int .i64 0).wf = true)⟩, hops, hau, (by show (0 : Nat) ≤ maxLen; omega), (by show (0 : Nat) ≤ maxLen; omega), Ad, cd, Ao, co, none, 0, none, 0, rfl, h1, h2, Sl.nil, Sl.nil⟩
theorem idD_len32 (o : ObjD) : (idD o).length = 32 := by
  unfold idD
  split
  · exact shaS_length _
  · simp
theorem load_err16 {w : World} {zo : Nat} {v : Value} (h : w.heap[zo]? = some (.cells [v].toArray 29 (0, 0))) : (loadVar 29 ⟨zo, 0, none⟩).run Tryz.prog w = .ok v w := load_err15 h
set_option maxHeartbeats 4000000 in
set_option maxRecDepth 100000 in
/-- What may not be is not added. -/
theorem add_bad (B s : Nat) (S : StateD) (q : StateL) (i : List UInt8) (c : ChangeD) (Ad : Option Addr) (cd : Nat) (Ao : Option Addr) (co : Nat) (w : World) (h : StateAt w B s S q) (hi : IdOk i) (h1 : Sl w w.heap.size Ad c.2.1.length 32 (idsV c.2.1)) (h2 : Sl w w.heap.size Ao c.2.2.2.length 70 (rowsV opV c.2.2.2)) (hf : AddFine S q c) (hg : Glob w) (hsg : ShaG w) (he : encC c ≠ 0) : Calls Tryz.prog 17 #[.pointer (some ⟨s, 0, none⟩), .agg (idV i).toArray, .agg (chC c.1 Ad c.2.1.length cd c.2.2.1 Ao c.2.2.2.length co).toArray] w (AddGives w B s S S q (encC c) c.2.2.2.length) := by
  have HEN := Lib.hid he
  clear he
  have HS := Lib.hid h; have HI := Lib.hid hi; have H1 := Lib.hid h1; have H2 := Lib.hid h2; have HF := Lib.hid hf; have HG := Lib.hid hg; have HSG := Lib.hid hsg
  have hmf : ∀ (fn : Fn) (first cap : Array Value) (w : World), (Instr.makeFunc fn first cap).run Tryz.prog w = .ok (.func fn first cap) w := fun _ _ _ _ => rfl
  have hil := idV_length i
  have hi32 : i.length = 32 := hi
  clear h hi h1 h2 hf hg hsg
  go_enter_defers Tryz.func17, Tryz.ntmps17
  go_upto_region 1 with (first
    | (with_reducible refine at_box ?_
       refine wp_boxM (by rfl) 41 _ rfl (idV i) _ rfl rfl (by rw [hil, hi32]; kernel_rfl) ?_
       intro W0 hb0 hy0 hs0
       have HB0 := Lib.hid hb0; have HY0 := Lib.hid hy0; have HS0 := Lib.hid hs0
       clear hb0 hy0 hs0)
    | (with_reducible refine at_box ?_
       refine wp_boxM (by rfl) 37 _ rfl (chC c.1 Ad c.2.1.length cd c.2.2.1 Ao c.2.2.2.length co) _ rfl rfl (by kernel_rfl) ?_
       intro W1 hb1 hy1 hs1
       have HB1 := Lib.hid hb1; have HY1 := Lib.hid hy1; have HS1 := Lib.hid hs1
       clear hb1 hy1 hs1)
    | (with_reducible refine at_alloc ?_
       refine wp_allocM1 (by rfl) 29 rfl (.int .i64 0) rfl (fun _ => by kernel_rfl) ?_
       intro W2 hb2 hy2 hs2
       have HB2 := Lib.hid hb2; have HY2 := Lib.hid hy2; have HS2 := Lib.hid hs2
       clear hb2 hy2 hs2))
  obtain ⟨b4, hb4⟩ : ∃ z, w.heap.size = z := ⟨_, rfl⟩
  obtain ⟨b5, hb5⟩ : ∃ z, W0.heap.size = z := ⟨_, rfl⟩
  obtain ⟨ze, hze⟩ : ∃ z, W1.heap.size = z := ⟨_, rfl⟩
  have HBW : Hid (Below w.heap.size w W2) := Lib.hid ((HB0.out.trans (HB1.out.mono HB0.out.size)).trans (HB2.out.mono (HB0.out.trans (HB1.out.mono HB0.out.size)).size))
  have HY4 := Lib.hid ((HB2.out.block w.heap.size (qL (qX HY0.out) HB1.out.size)).trans ((HB1.out.block w.heap.size (qX HY0.out)).trans HY0.out))
  have HY5 := Lib.hid ((HB2.out.block W0.heap.size (qX HY1.out)).trans HY1.out)
  rw [hb4] at HY4 ⊢
  rw [hb5] at HY5 ⊢
  rw [hze] at HY2 ⊢
  have HL := Lib.hid (show w.heap.size ≤ b4 ∧ w.heap.size ≤ b5 ∧ w.heap.size ≤ ze ∧ b4 < b5 ∧ b5 < ze from by have := HS0.out; have := HS1.out; omega)
  have HSW := Lib.hid (HS.out.keep HBW.out)
  clear HB0 HB1 HB2 HS0 HS1 HS2 HY0 HY1 hb4 hb5 hze
  have HR5 := Lib.hid (show W2.rangeAt b5 0 (chC c.1 Ad c.2.1.length cd c.2.2.1 Ao c.2.2.2.length co) from fun j u hj => by rw [qZ]; exact (cells_at0 HY5.out j).trans hj)
  have HOI := Lib.hid (objId_any (1, c, noCommitD) _ W2 (change_obj (cd := cd) (co := co) HF.out.ok HF.out.ops HF.out.author ((H1.out.keep HBW.out).more HBW.out.size) ((H2.out.keep HBW.out).more HBW.out.size)) (by have := HF.out.deps; show c.2.1.length ≤ _; omega) (by have := HF.out.len; show c.2.2.2.length ≤ _; omega) (by show (0 : Nat) ≤ _; omega) (by show (0 : Nat) ≤ _; omega) (HG.out.next HBW.out) (HSG.out.next HBW.out))
  have hidl : (idV (idD (1, c, noCommitD))).length = 32 := by rw [idV_length]; exact idD_len32 _
  go_upto_region 4 with (first
    | (with_reducible refine at_load ?_
       refine wp_val (by rfl) (ex_load 37 _ rfl (p := ⟨b5, 0, none⟩) rfl (qV _ b5 0 _ _ _ HR5.out Tryz.underlying37 rfl (by kernel_rfl))) ?_)
    | (with_reducible refine at_build ?_
       refine wp_val (by rfl) (ex_build 70 _ rfl (by simp only [List.map_toArray, List.map_cons, List.map_nil]; exact obj_built15 _ _ _ _ _ _ _ _ _)) ?_)
    | (go_at_call 46; refine HOI.out.mono ?_
       rintro e W3 ⟨rfl, hb3⟩
       have HB3 := Lib.hid hb3
       have HE3 := Lib.hid ((hb3.block ze (qX HY2.out)).trans HY2.out)
       clear hb3)
    | (with_reducible refine at_alloc ?_
       refine wp_allocM (by rfl) 41 rfl (idV zero32) (by kernel_rfl) ?_
       intro W4 hb4 hy4 hs4
       have HB4 := Lib.hid hb4; have HZ4 := Lib.hid hy4
       have HE4 := Lib.hid ((hb4.block ze (qX HE3.out)).trans HE3.out)
       clear hb4 hy4 hs4)
    | (with_reducible refine at_store ?_
       refine wp_storeM (by rfl) 41 _ _ rfl W3.heap.size 0 [] (idV zero32) [] (idV (idD (1, c, noCommitD))) 41 (.agg (idV (idD (1, c, noCommitD))).toArray) rfl rfl rfl rfl (by simpa using HZ4.out) (by rw [hidl]; rfl) (by rw [hidl]; kernel_rfl) (idV_one _) ?_
       intro W5 hb5 hy5 hs5
       have HB5 := Lib.hid hb5
       have HZ5 : Hid (W5.heap[W3.heap.size]? = some (.cells (idV (idD (1, c, noCommitD))).toArray 41 (0, 0))) := Lib.hid (by simpa using hy5)
       have HE5 := Lib.hid ((hb5.block ze (qX HE4.out) (by have := qX HE3.out; omega)).trans HE4.out)
       clear hb5 hy5 hs5)
    | (with_reducible refine at_store ?_
       refine wp_storeM (by rfl) 29 _ _ rfl ze 0 [] [.int .i64 0] [] [.int .i64 (encR (1, c, noCommitD))] 29 (.int .i64 (encR (1, c, noCommitD))) rfl rfl rfl rfl (by simpa using HE5.out) rfl (by kernel_rfl) (by intro u hu; rw [List.mem_singleton.1 hu]; rfl) ?_
       intro W6 hb6 hy6 hs6
       have HB6 := Lib.hid hb6
       have HE6 : Hid (W6.heap[ze]? = some (.cells [Value.int .i64 (encR (1, c, noCommitD))].toArray 29 (0, 0))) := Lib.hid (by simpa using hy6)
       have HZ6 := Lib.hid ((hb6.block W3.heap.size (qX HZ5.out) (by have := qX HE3.out; omega)).trans HZ5.out)
       clear hb6 hy6 hs6))
  obtain ⟨b7, hb7⟩ : ∃ z, W3.heap.size = z := ⟨_, rfl⟩
  rw [hb7] at HZ6 ⊢
  have hb26 : But (fun k => k = ze) W2 W6 := ((But.of_below (HB3.out.trans (HB4.out.mono HB3.out.size))).trans HB5.out fun k hk e => by have e2 : k = W3.heap.size := e; have := HB3.out.size; omega).trans HB6.out fun k hk e => e
  have HB26 := Lib.hid hb26
  have HBW6 : Hid (Below w.heap.size w W6) := Lib.hid (HBW.out.trans (hb26.below HBW.out.size fun k hk e => by have := HL.out; omega))
  have HY46 := Lib.hid ((hb26.block b4 (qX HY4.out) (by have := HL.out; omega)).trans HY4.out)
  have HY56 := Lib.hid ((hb26.block b5 (qX HY5.out) (by have := HL.out; omega)).trans HY5.out)
  have HLZ := Lib.hid (show ze < b7 ∧ b7 < W6.heap.size from ⟨by have := qX HE3.out; omega, qX HZ6.out⟩)
  clear hb26 HB3 HE3 HB4 HZ4 HE4 HB5 HZ5 HE5 HB6 hb7 HY4 HY5 HY2 HR5 HOI HSW
  have ce : W6.cell? ⟨ze, 0, none⟩ = some (.int .i64 (encR (1, c, noCommitD))) := cells_at0 HE6.out 0
  have hne : ¬ encR (1, c, noCommitD) = 0 := HEN.out
  go_wp2_with (first
    | (with_reducible refine at_store ?_
       refine wp_storeM (by rfl) 29 _ _ rfl ze 0 [] [.int .i64 (encR (1, c, noCommitD))] [] [.int .i64 (encR (1, c, noCommitD))] 29 (.int .i64 (encR (1, c, noCommitD))) rfl rfl rfl rfl (by simpa using HE6.out) rfl (by kernel_rfl) (by intro u hu; rw [List.mem_singleton.1 hu]; rfl) ?_
       intro W7 hb7 hy7 hs7
       have HB7 := Lib.hid (hb7.below (B := w.heap.size) HBW6.out.size (fun k hk e => by have := HL.out; omega))
       have HE7 : Hid (W7.heap[ze]? = some (.cells [Value.int .i64 (encR (1, c, noCommitD))].toArray 29 (0, 0))) := Lib.hid (by simpa using hy7)
       clear hb7 hy7 hs7))
  exact ⟨_, results_one Tryz.results17 _ _ rfl (load_err16 HE7.out), AddGives.same HS.out (HBW6.out.trans HB7.out)⟩
theorem sizeInt15 : (Tryz.prog.info? 3).map (·.size) = some 1 := by kernel_rfl
theorem textsN_snoc (l : List OpD) {j : Nat} (hj : j < l.length) : textsN (l.take (j + 1)) = textsN (l.take j) + runesN l[j].2.2.2.1 := by
  unfold textsN
  rw [List.take_succ_eq_append_getElem hj, List.map_append, List.sum_append]
  simp
theorem textsN_le (l : List OpD) (j : Nat) : textsN (l.take j) ≤ textsN l := by
  unfold textsN
  conv => rhs; rw [← List.take_append_drop j l]
  rw [List.map_append, List.sum_append]
  omega
theorem mid_st {t : TypeId} (h : midTag t = true) : stTag t = false := by
  unfold midTag at h
  simp only [Bool.or_eq_true, beq_iff_eq] at h
  rcases h with ((rfl | rfl) | rfl) | rfl <;> decide
theorem entry_built (t : Int) (A1 : Option Addr) (n1 c1 : Nat) (au : ByteArray) (A2 : Option Addr) (n2 c2 : Nat) (A3 : Option Addr) (n3 c3 : Nat) (w : World) : (Instr.build 105 #[(0, .agg (chC t A1 n1 c1 au A2 n2 c2).toArray), (1, .slice A3 n3 c3)]).run Tryz.prog w = .ok (.agg [.int .i64 t, .slice A1 n1 c1, .string au, .slice A2 n2 c2, .slice A3 n3 c3].toArray) w := by kernel_rfl
theorem fitsAt_ns {S : StateD} {i : List UInt8} {t : Int} : ∀ {l : List OpD} {m0 mk : List MakeD} {ns : List Nat}, fitsAt S i t m0 l = some (mk, ns) → m0.length ≤ mk.length ∧ ∀ n ∈ ns, n ≤ mk.length
  | [], m0, mk, ns, h => by
    cases h
    exact ⟨Nat.le_refl _, fun n hn => by cases hn⟩
  | x :: l, m0, mk, ns, h => by
    unfold fitsAt at h
    cases hf : fitAt S i t m0 x with
    | none => rw [hf] at h; cases h
    | some mk2 =>
      rw [hf] at h
      dsimp only at h
      obtain ⟨p, hp, e⟩ := Option.map_eq_some_iff.1 h
      obtain ⟨p1, p2⟩ := p
      cases e
      obtain ⟨g1, g2⟩ := fitsAt_ns hp
      have h0 : m0.length ≤ mk2.length := by
        unfold fitAt at hf
        split at hf
        · cases hf; simp
        · split at hf
          · cases hf
          · split at hf
            · cases hf
            · split at hf
              · split at hf
                · cases hf; exact Nat.le_refl _
                · cases hf
              · split at hf
                · split at hf
                  · cases hf; simp
                  · cases hf
                · cases hf; exact Nat.le_refl _
      refine ⟨Nat.le_trans h0 g1, fun n hn => ?_⟩
      rcases List.mem_cons.1 hn with rfl | hn
      · exact Nat.le_trans h0 g1
      · exact g2 n hn
theorem StateAt.keepE {w w' : World} {B s : Nat} {S : StateD} {q : StateL} {ze : Nat} {cur : Array Value} (h : StateAt w B s S q) (hb : But (fun k => k = ze) w w') (he : w.heap[ze]? = some (.cells cur 29 (0, 0))) : StateAt w' B s S q := by
  have hn : ∀ {k : Nat} {cur : Array Value} {t : TypeId} {fr : Nat × Nat}, w.heap[k]? = some (.cells cur t fr) → t ≠ 29 → ¬ k = ze := fun hc ht e => ne_tag hc he ht e
  have hm : ∀ {k : Nat}, (∃ x y, w.heap[k]? = some (.map x y)) → ¬ k = ze := fun hc e => ne_map he hc e.symm
  have hK : KeepR w w' := KeepR.but hb fun k hk cu ty fr hty hcc => by
    subst hk
    rw [he] at hcc
    injection hcc with hcc
    injection hcc with _ hcc
    subst hcc
    exact absurd hty (by decide)
  refine ⟨(hb.block s (qX h.box) (hn h.box (by decide))).trans h.box, h.low, hb.map h.mapD (hm h.mapD_obj), hb.map h.mapC (hm h.mapC_obj), h.ne, hb.own h.claims fun g hg e => ?_, h.claimsOk, fun k d hd => ⟨(h.docs k d hd).1, (h.docs k d hd).2.but hb (fun j hj e => ?_) hK⟩, h.apart, fun i e hi => ⟨(h.entries i e hi).1, (h.entries i e hi).2.keep hK⟩⟩
  · obtain ⟨c2, h2⟩ := own_tagged h.claims hg
    exact hn h2 (by decide) e
  · obtain ⟨c2, t2, h1, h2⟩ := (h.docs k d hd).2.tagged hj
    exact hn h2 (by rcases h1 with rfl | rfl <;> decide) e
def intsV (ns : List Nat) : List Value := ns.map fun (n : Nat) => Value.int .i64 (n : Int)
theorem intsV_snoc (ns : List Nat) (n : Nat) : intsV (ns ++ [n]) = intsV ns ++ [.int .i64 (n : Int)] := by simp [intsV]
theorem opZ15 (w : World) : (zeroValue 112).run Tryz.prog w = .ok (.agg (opV (0, zeroRef, zeroRef, noneS, 0, noneS)).toArray) w := by kernel_rfl
theorem infoInt15 : (Tryz.prog.info? 3).map (fun i => (i.zero, i.size, i.bytes)) = some (some (.int .i64 0), 1, 8) := by kernel_rfl
def adderZ : List Value := Value.pointer none :: (idV zero32 ++ [.int .i64 0, .slice none 0 0, .string noneS, .slice none 0 0, .slice none 0 0])
theorem infoAdder : (Tryz.prog.info? 127).map (fun i => (i.zero, i.size)) = some (some (.agg adderZ.toArray), 38) := by kernel_rfl
theorem adder_built (s : Nat) (i : List UInt8) (hi : IdOk i) (t : Int) (au : ByteArray) (A1 A2 : Option Addr) (n1 c1 n2 c2 : Nat) (w : World) : (Instr.build 127 #[(0, .pointer (some ⟨s, 0, none⟩)), (1, .agg (idV i).toArray), (2, .agg (chC t A1 n1 c1 au A2 n2 c2).toArray)]).run Tryz.prog w = .ok (.agg (Value.pointer (some ⟨s, 0, none⟩) :: (idV i ++ [.int .i64 t, .slice A1 n1 c1, .string au, .slice A2 n2 c2, .slice none 0 0])).toArray) w := by
  obtain ⟨j, hi2⟩ : ∃ j, Tryz.prog.info? 127 = some j := by
    cases hq : Tryz.prog.info? 127 with
    | none => have := infoAdder; rw [hq] at this; cases this
    | some j => exact ⟨j, rfl⟩
  have hz : j.zero = some (.agg adderZ.toArray) := by
    have := infoAdder
    rw [hi2] at this
    exact congrArg Prod.fst (Option.some.inj this)
  have h := built_struct (P := Tryz.prog) hi2 Tryz.underlying127 hz [[.pointer none], idV zero32, chC 0 none 0 0 noneS none 0 0, [.slice none 0 0]] rfl (places := [(0, 1), (1, 32), (33, 4), (37, 1)]) (by kernel_rfl) (by kernel_rfl) [(0, .pointer (some ⟨s, 0, none⟩)), (1, .agg (idV i).toArray), (2, .agg (chC t A1 n1 c1 au A2 n2 c2).toArray)] (by
    intro q hq
    simp only [List.mem_cons, List.not_mem_nil, or_false] at hq
    rcases hq with rfl | rfl | rfl
    · exact ⟨by show 0 < 4; omega, rfl⟩
    · exact ⟨by show 1 < 4; omega, by show (idV i).toArray.size = 32; rw [List.size_toArray, idV_length]; exact hi⟩
    · exact ⟨by show 2 < 4; omega, rfl⟩)
  have h2 := run_build (P := Tryz.prog) w 127 #[(0, .pointer (some ⟨s, 0, none⟩)), (1, .agg (idV i).toArray), (2, .agg (chC t A1 n1 c1 au A2 n2 c2).toArray)] _ h
  refine h2.trans ?_
  simp [Value.cells, chC]
theorem leaves_tmps {P : Program} {fn : Func} {t1 t2 : Array Value} {R : Ending → World → Prop} (h : ∀ w, (results fn t1).run P w = (results fn t2).run P w) : ∀ (ds : List Deferred) (u : FrameMode) (w : World), Leaves P fn t1 R ds u w → Leaves P fn t2 R ds u w
  | [], .returning, w, ⟨v, h1, h2⟩ => ⟨v, (h w).symm.trans h1, h2⟩
  | [], .panicking _, w, h1 => h1
  | d :: ds, u, w, ⟨h0, fv, cap, f, args, h1, h2, h3⟩ => ⟨h0, fv, cap, f, args, h1, h2, CallsD.mono h3 fun e u' w' hk => by
      cases e with
      | returned v => exact leaves_tmps h ds _ _ hk
      | panicked c => exact leaves_tmps h ds _ _ hk
      | outgrown => exact hk⟩
theorem results_six {fn : Func} {ty : TypeId} (h : fn.results = #[.cell 6 ty]) (t : Array Value) {k : Nat} (hk : k ≠ 6) (v : Value) (w : World) : (results fn (t.setIfInBounds k v)).run Tryz.prog w = (results fn t).run Tryz.prog w := by
  have e : (t.setIfInBounds k v)[6]?.getD undef = t[6]?.getD undef := by rw [Array.getElem?_setIfInBounds_ne hk]
  simp only [results, h]
  simp [e]
/-- What stands in the other slots makes no difference to a panic. -/
theorem add_hQ {R : Ending → World → Prop} {k : Nat} {v : Value} {ch : List PanicEntry} {a : Act} {w : World} (hk : k ≠ 6) (h : bodyPostD Tryz.prog Tryz.f17 R (.panic ch) (a.put (some k) v) w) : bodyPostD Tryz.prog Tryz.f17 R (.panic ch) a w :=
  leaves_tmps (fun w => results_six Tryz.results17 a.tmps hk v w) _ _ _ h
theorem addAt_have {S : StateD} {is i : List UInt8} {c : ChangeD} (h1 : is = i) (h2 : (entryAt S i).isSome = false) : addAt S is i c = (if c.2.1.all (fun d => (entryAt S d).isSome) = false then ((12 : Int), S) else if c.2.1.all (fun d => decide (timeAt S d < c.1)) = false then (21, S) else match fitsAt S i c.1 [] c.2.2.2 with
    | none => (22, S)
    | some (mk, ns) => (0, dosAt i c.1 0 (S.1, S.2.1, S.2.2 ++ [(i, c, mk)]) c.2.2.2 ns)) := by
  unfold addAt
  rw [if_neg (fun q => q h1), if_neg (by rw [h2]; decide)]
  rfl
set_option maxHeartbeats 4000000 in
set_option maxRecDepth 100000 in
/-- What may be is added, or does not fit. -/
theorem add_good (B s : Nat) (S : StateD) (q : StateL) (i : List UInt8) (c : ChangeD) (Ad : Option Addr) (cd : Nat) (Ao : Option Addr) (co : Nat) (w : World) (h : StateAt w B s S q) (hi : IdOk i) (h1 : Sl w w.heap.size Ad c.2.1.length 32 (idsV c.2.1)) (h2 : Sl w w.heap.size Ao c.2.2.2.length 70 (rowsV opV c.2.2.2)) (hf : AddFine S q c) (hg : Glob w) (hsg : ShaG w) (he : encC c = 0) : Calls Tryz.prog 17 #[.pointer (some ⟨s, 0, none⟩), .agg (idV i).toArray, .agg (chC c.1 Ad c.2.1.length cd c.2.2.1 Ao c.2.2.2.length co).toArray] w (AddGives w B s S (addAt S (idC c) i c).2 q (addAt S (idC c) i c).1 c.2.2.2.length) := by
  have HEN := Lib.hid he
  clear he
  have HS := Lib.hid h; have HI := Lib.hid hi; have H1 := Lib.hid h1; have H2 := Lib.hid h2; have HF := Lib.hid hf; have HG := Lib.hid hg; have HSG := Lib.hid hsg
  have hmf : ∀ (fn : Fn) (first cap : Array Value) (w : World), (Instr.makeFunc fn first cap).run Tryz.prog w = .ok (.func fn first cap) w := fun _ _ _ _ => rfl
  have hil := idV_length i
  have hi32 : i.length = 32 := hi
  clear h hi h1 h2 hf hg hsg
  go_enter_defers Tryz.func17, Tryz.ntmps17
  go_upto_region 1 with (first
    | (with_reducible refine at_box ?_
       refine wp_boxM (by rfl) 41 _ rfl (idV i) _ rfl rfl (by rw [hil, hi32]; kernel_rfl) ?_
       intro W0 hb0 hy0 hs0
       have HB0 := Lib.hid hb0; have HY0 := Lib.hid hy0; have HS0 := Lib.hid hs0
       clear hb0 hy0 hs0)
    | (with_reducible refine at_box ?_
       refine wp_boxM (by rfl) 37 _ rfl (chC c.1 Ad c.2.1.length cd c.2.2.1 Ao c.2.2.2.length co) _ rfl rfl (by kernel_rfl) ?_
       intro W1 hb1 hy1 hs1
       have HB1 := Lib.hid hb1; have HY1 := Lib.hid hy1; have HS1 := Lib.hid hs1
       clear hb1 hy1 hs1)
    | (with_reducible refine at_alloc ?_
       refine wp_allocM1 (by rfl) 29 rfl (.int .i64 0) rfl (fun _ => by kernel_rfl) ?_
       intro W2 hb2 hy2 hs2
       have HB2 := Lib.hid hb2; have HY2 := Lib.hid hy2; have HS2 := Lib.hid hs2
       clear hb2 hy2 hs2))
  obtain ⟨b4, hb4⟩ : ∃ z, w.heap.size = z := ⟨_, rfl⟩
  obtain ⟨b5, hb5⟩ : ∃ z, W0.heap.size = z := ⟨_, rfl⟩
  obtain ⟨ze, hze⟩ : ∃ z, W1.heap.size = z := ⟨_, rfl⟩
  have HBW : Hid (Below w.heap.size w W2) := Lib.hid ((HB0.out.trans (HB1.out.mono HB0.out.size)).trans (HB2.out.mono (HB0.out.trans (HB1.out.mono HB0.out.size)).size))
  have HY4 := Lib.hid ((HB2.out.block w.heap.size (qL (qX HY0.out) HB1.out.size)).trans ((HB1.out.block w.heap.size (qX HY0.out)).trans HY0.out))
  have HY5 := Lib.hid ((HB2.out.block W0.heap.size (qX HY1.out)).trans HY1.out)
  rw [hb4] at HY4 ⊢
  rw [hb5] at HY5 ⊢
  rw [hze] at HY2 ⊢
  have HL := Lib.hid (show w.heap.size ≤ b4 ∧ w.heap.size ≤ b5 ∧ w.heap.size ≤ ze ∧ b4 < b5 ∧ b5 < ze from by have := HS0.out; have := HS1.out; omega)
  have HSW := Lib.hid (HS.out.keep HBW.out)
  clear HB0 HB1 HB2 HS0 HS1 HS2 HY0 HY1 hb4 hb5 hze
  have HR5 := Lib.hid (show W2.rangeAt b5 0 (chC c.1 Ad c.2.1.length cd c.2.2.1 Ao c.2.2.2.length co) from fun j u hj => by rw [qZ]; exact (cells_at0 HY5.out j).trans hj)
  have HOI := Lib.hid (objId_any (1, c, noCommitD) _ W2 (change_obj (cd := cd) (co := co) HF.out.ok HF.out.ops HF.out.author ((H1.out.keep HBW.out).more HBW.out.size) ((H2.out.keep HBW.out).more HBW.out.size)) (by have := HF.out.deps; show c.2.1.length ≤ _; omega) (by have := HF.out.len; show c.2.2.2.length ≤ _; omega) (by show (0 : Nat) ≤ _; omega) (by show (0 : Nat) ≤ _; omega) (HG.out.next HBW.out) (HSG.out.next HBW.out))
  have hidl : (idV (idD (1, c, noCommitD))).length = 32 := by rw [idV_length]; exact idD_len32 _
  go_upto_region 4 with (first
    | (with_reducible refine at_load ?_
       refine wp_val (by rfl) (ex_load 37 _ rfl (p := ⟨b5, 0, none⟩) rfl (qV _ b5 0 _ _ _ HR5.out Tryz.underlying37 rfl (by kernel_rfl))) ?_)
    | (with_reducible refine at_build ?_
       refine wp_val (by rfl) (ex_build 70 _ rfl (by simp only [List.map_toArray, List.map_cons, List.map_nil]; exact obj_built15 _ _ _ _ _ _ _ _ _)) ?_)
    | (go_at_call 46; refine HOI.out.mono ?_
       rintro e W3 ⟨rfl, hb3⟩
       have HB3 := Lib.hid hb3
       have HE3 := Lib.hid ((hb3.block ze (qX HY2.out)).trans HY2.out)
       clear hb3)
    | (with_reducible refine at_alloc ?_
       refine wp_allocM (by rfl) 41 rfl (idV zero32) (by kernel_rfl) ?_
       intro W4 hb4 hy4 hs4
       have HB4 := Lib.hid hb4; have HZ4 := Lib.hid hy4
       have HE4 := Lib.hid ((hb4.block ze (qX HE3.out)).trans HE3.out)
       clear hb4 hy4 hs4)
    | (with_reducible refine at_store ?_
       refine wp_storeM (by rfl) 41 _ _ rfl W3.heap.size 0 [] (idV zero32) [] (idV (idD (1, c, noCommitD))) 41 (.agg (idV (idD (1, c, noCommitD))).toArray) rfl rfl rfl rfl (by simpa using HZ4.out) (by rw [hidl]; rfl) (by rw [hidl]; kernel_rfl) (idV_one _) ?_
       intro W5 hb5 hy5 hs5
       have HB5 := Lib.hid hb5
       have HZ5 : Hid (W5.heap[W3.heap.size]? = some (.cells (idV (idD (1, c, noCommitD))).toArray 41 (0, 0))) := Lib.hid (by simpa using hy5)
       have HE5 := Lib.hid ((hb5.block ze (qX HE4.out) (by have := qX HE3.out; omega)).trans HE4.out)
       clear hb5 hy5 hs5)
    | (with_reducible refine at_store ?_
       refine wp_storeM (by rfl) 29 _ _ rfl ze 0 [] [.int .i64 0] [] [.int .i64 (encR (1, c, noCommitD))] 29 (.int .i64 (encR (1, c, noCommitD))) rfl rfl rfl rfl (by simpa using HE5.out) rfl (by kernel_rfl) (by intro u hu; rw [List.mem_singleton.1 hu]; rfl) ?_
       intro W6 hb6 hy6 hs6
       have HB6 := Lib.hid hb6
       have HE6 : Hid (W6.heap[ze]? = some (.cells [Value.int .i64 (encR (1, c, noCommitD))].toArray 29 (0, 0))) := Lib.hid (by simpa using hy6)
       have HZ6 := Lib.hid ((hb6.block W3.heap.size (qX HZ5.out) (by have := qX HE3.out; omega)).trans HZ5.out)
       clear hb6 hy6 hs6))
  obtain ⟨b7, hb7⟩ : ∃ z, W3.heap.size = z := ⟨_, rfl⟩
  rw [hb7] at HZ6 ⊢
  have hb26 : But (fun k => k = ze) W2 W6 := ((But.of_below (HB3.out.trans (HB4.out.mono HB3.out.size))).trans HB5.out fun k hk e => by have e2 : k = W3.heap.size := e; have := HB3.out.size; omega).trans HB6.out fun k hk e => e
  have HB26 := Lib.hid hb26
  have HBW6 : Hid (Below w.heap.size w W6) := Lib.hid (HBW.out.trans (hb26.below HBW.out.size fun k hk e => by have := HL.out; omega))
  have HY46 := Lib.hid ((hb26.block b4 (qX HY4.out) (by have := HL.out; omega)).trans HY4.out)
  have HY56 := Lib.hid ((hb26.block b5 (qX HY5.out) (by have := HL.out; omega)).trans HY5.out)
  have HLZ := Lib.hid (show ze < b7 ∧ b7 < W6.heap.size from ⟨by have := qX HE3.out; omega, qX HZ6.out⟩)
  clear hb26 HB3 HE3 HB4 HZ4 HE4 HB5 HZ5 HE5 HB6 hb7 HY4 HY5 HY2 HR5 HOI HSW
  have ce : W6.cell? ⟨ze, 0, none⟩ = some (.int .i64 (encR (1, c, noCommitD))) := cells_at0 HE6.out 0
  have he0 : encR (1, c, noCommitD) = 0 := HEN.out
  rw [he0] at ce HE6
  clear he0 HB26
  have HIC : Hid (IdOk (idD (1, c, noCommitD))) := Lib.hid (idD_len32 _)
  go_upto_region 7 with fail
  clear ce
  have HR7 := Lib.hid (show W6.rangeAt b7 0 (idV (idD (1, c, noCommitD))) from fun j u hj => by rw [qZ]; exact (cells_at0 HZ6.out j).trans hj)
  have HR4 := Lib.hid (show W6.rangeAt b4 0 (idV i) from fun j u hj => by rw [qZ]; exact (cells_at0 HY46.out j).trans hj)
  have HS6 := Lib.hid (HS.out.keep HBW6.out)
  by_cases his : idD (1, c, noCommitD) = i
  rotate_left
  · have EQ : Hid (decide (idD (1, c, noCommitD) = i) = false) := Lib.hid (dF his)
    have HADD : Hid (addAt S (idC c) i c = (18, S)) := Lib.hid (by unfold addAt; rw [if_pos (show idC c ≠ i from his)])
    clear his
    go_wp2_with (first
      | (with_reducible refine at_load ?_
         refine wp_val (by rfl) (ldD HIC.out HR7.out) ?_
         go_frame)
      | (with_reducible refine at_load ?_
         refine wp_val (by rfl) (ldD HI.out HR4.out) ?_
         go_frame)
      | (with_reducible refine at_binOp ?_
         refine wp_val (by rfl) (eqD HIC.out HI.out EQ.out) ?_
         go_frame; try simp only [nTF])
      | (go_at_call 51; refine (sneed_no 18 _).mono ?_; rintro e wn ⟨rfl, hwn⟩; cases hwn))
    refine leaves_cons (f := 50) (args := #[.pointer (some ⟨ze, 0, none⟩)]) (by simp) (by simp [go_sem]) ?_
    refine (add_stop ze 18 0 _ HE6.out).mono ?_
    rintro e u' w9 ⟨rfl, hset, he9, hb9⟩
    simp only [hset]
    refine ⟨_, results_one Tryz.results17 _ _ rfl (load_err16 he9), ?_⟩
    rw [HADD.out]
    exact AddGives.same HS.out (HBW6.out.trans (hb9.below HBW6.out.size fun k hk e => by have := HL.out; omega))
  have EQ : Hid (decide (idD (1, c, noCommitD) = i) = true) := Lib.hid (dT his)
  have HIS := Lib.hid his
  clear his
  go_upto_region 8 with (first
    | (with_reducible refine at_load ?_
       refine wp_val (by rfl) (ldD HIC.out HR7.out) ?_
       go_frame)
    | (with_reducible refine at_load ?_
       refine wp_val (by rfl) (ldD HI.out HR4.out) ?_
       go_frame)
    | (with_reducible refine at_binOp ?_
       refine wp_val (by rfl) (eqD HIC.out HI.out EQ.out) ?_
       go_frame; try simp only [nTF])
    | (go_at_call 51; refine (sneed_yes 18 _).mono ?_; rintro e wn ⟨rfl, hwn⟩; cases hwn))
  clear HR7 EQ
  cases hh : (entryAt S i).isSome
  rotate_left
  · have HH := Lib.hid hh
    have HADD : Hid (addAt S (idC c) i c = (11, S)) := Lib.hid (by unfold addAt; rw [if_neg (fun q => q HIS.out), if_pos hh])
    clear hh
    go_wp2_with (first
      | (refine wp_val (by rfl) (ldD HI.out HR4.out) ?_)
      | (go_at_call 26; refine (has_any B s S q i W6 HS6.out HI.out).mono ?_
         rintro e W7 ⟨hb7, rfl⟩
         rw [HH.out]
         have HB7 := Lib.hid hb7
         have HE7 := Lib.hid ((hb7.block ze (qX HE6.out)).trans HE6.out)
         have HBW7 : Hid (Below w.heap.size w W7) := Lib.hid (HBW6.out.trans (hb7.mono HBW6.out.size))
         clear hb7)
      | (go_at_call 51; refine (sneed_no 11 _).mono ?_; rintro e wn ⟨rfl, hwn⟩; cases hwn))
    refine leaves_cons (f := 50) (args := #[.pointer (some ⟨ze, 0, none⟩)]) (by simp) (by simp [go_sem]) ?_
    refine (add_stop ze 11 0 _ HE7.out).mono ?_
    rintro e u' w9 ⟨rfl, hset, he9, hb9⟩
    simp only [hset]
    refine ⟨_, results_one Tryz.results17 _ _ rfl (load_err16 he9), ?_⟩
    rw [HADD.out]
    exact AddGives.same HS.out (HBW7.out.trans (hb9.below HBW7.out.size fun k hk e => by have := HL.out; omega))
  have HH := Lib.hid hh
  have HADC := Lib.hid (addAt_have (S := S) (c := c) HIS.out hh)
  clear hh
  have hnd := HF.out.deps
  go_upto_region 9 with (first
    | (refine wp_val (by rfl) (ldD HI.out HR4.out) ?_)
    | (go_at_call 26; refine (has_any B s S q i W6 HS6.out HI.out).mono ?_
       rintro e W7 ⟨hb7, rfl⟩
       rw [HH.out]
       have HB7 := Lib.hid hb7
       have HE7 := Lib.hid ((hb7.block ze (qX HE6.out)).trans HE6.out)
       have HBW7 : Hid (Below w.heap.size w W7) := Lib.hid (HBW6.out.trans (hb7.mono HBW6.out.size))
       have HY57 := Lib.hid ((hb7.block b5 (qX HY56.out)).trans HY56.out)
       have HY47 := Lib.hid ((hb7.block b4 (qX HY46.out)).trans HY46.out)
       clear hb7)
    | (go_at_call 51; refine (sneed_yes 11 _).mono ?_; rintro e wn ⟨rfl, hwn⟩; cases hwn))
  have c51 : W7.cell? ⟨b5, 1, none⟩ = some (.slice Ad c.2.1.length cd) := cells_at0 HY57.out 1
  go_upto_region 10 with fail
  clear c51 HR4 HS6 HE6 HY46 HY56 HB7 HBW6
  go_loopw [42] (fun t42 wr => ∃ j : Nat, j ≤ c.2.1.length ∧ t42 = .int .i64 (j : Int) ∧ Hid (Below W7.heap.size W7 wr) ∧ Hid (∀ k (hk : k < c.2.1.length), k < j → (entryAt S c.2.1[k]).isSome = true)) (fun t42 _ => c.2.1.length - (intOf t42).toNat)
  case atStart => exact ⟨0, Nat.zero_le _, rfl, Lib.hid (qB _ _), Lib.hid fun k hk h => absurd h (by omega)⟩
  case round =>
    obtain ⟨j, hj, rfl, HBR, HALL⟩ := hrel
    have HBWR : Hid (Below w.heap.size w wr) := Lib.hid (HBW7.out.trans (HBR.out.mono HBW7.out.size))
    have HSR := Lib.hid (HS.out.keep HBWR.out)
    by_cases hlt : j < c.2.1.length
    · have i0 : (0 : Int) ≤ (j : Int) := by omega
      have i1 : (j : Int) < (c.2.1.length : Int) := by omega
      obtain ⟨bd, off, rfl, hbd, hdc⟩ := (H1.out.keep HBWR.out).2 (by omega)
      have HROW := Lib.hid (show wr.rangeAt bd (off + j * 32) (idV c.2.1[j]) from fun k u hk => Sl.id (B := 0) HF.out.ok.2.1 hdc hlt k u hk)
      have HDI : Hid (IdOk c.2.1[j]) := Lib.hid (HF.out.ok.2.1 _ (List.getElem_mem hlt))
      have HGJ := Lib.hid (show ∀ b : Bool, (entryAt S c.2.1[j]).isSome = b → (∀ k (hk : k < c.2.1.length), k < j + 1 → (entryAt S c.2.1[k]).isSome = true) ∨ b = false from fun b hb => by
        cases b
        · exact .inr rfl
        · refine .inl fun k hk hkj => ?_
          rcases (by omega : k < j ∨ k = j) with q | rfl
          · exact HALL.out k hk q
          · exact hb)
      have HNO := Lib.hid (show (entryAt S c.2.1[j]).isSome = false → c.2.1.all (fun d => (entryAt S d).isSome) = false from fun hb => List.all_eq_false.2 ⟨_, List.getElem_mem hlt, by rw [hb]; decide⟩)
      clear hdc
      generalize c.2.1[j] = dj at *
      have hdl : (idV dj).length = 32 := by rw [idV_length]; exact HDI.out
      go_upto_region 12 with (first
        | (with_reducible refine at_load ?_
           refine wp_val (by rfl) (ldD HDI.out HROW.out) ?_)
        | (with_reducible refine at_alloc ?_
           refine wp_allocM (by rfl) 41 rfl (idV zero32) (by kernel_rfl) ?_
           intro W8 hb8 hy8 hs8
           have HB8 := Lib.hid hb8; have HZ8 := Lib.hid hy8
           clear hb8 hy8 hs8)
        | (with_reducible refine at_store ?_
           refine wp_storeM (by rfl) 41 _ _ rfl wr.heap.size 0 [] (idV zero32) [] (idV dj) 41 (.agg (idV dj).toArray) rfl rfl rfl rfl (by simpa using HZ8.out) (by rw [hdl]; rfl) (by rw [hdl]; kernel_rfl) (idV_one _) ?_
           intro W9 hb9 hy9 hs9
           have HB9 := Lib.hid (HB8.out.trans (hb9.below (B := wr.heap.size) HB8.out.size (fun k hk e => by have e2 : k = wr.heap.size := e; omega)))
           have HZ9 : Hid (W9.rangeAt wr.heap.size 0 (idV dj)) := Lib.hid fun k u hk => by rw [qZ]; exact (cells_at0 hy9 k).trans (by simpa using hk)
           clear hb9 hy9 hs9))
      have HS9 := Lib.hid (HSR.out.keep HB9.out)
      have HB79 : Hid (Below W7.heap.size W7 W9) := Lib.hid (HBR.out.trans (HB9.out.mono HBR.out.size))
      clear HB8 HZ8 HROW HB9 HSR
      cases hb : (entryAt S dj).isSome
      · have HBB := Lib.hid hb
        have HADD : Hid (addAt S (idC c) i c = (12, S)) := Lib.hid (HADC.out.trans (if_pos (HNO.out hb)))
        clear hb
        go_wp2_with (first
          | (with_reducible refine at_load ?_
             refine wp_val (by rfl) (ldD HDI.out HZ9.out) ?_)
          | (go_at_call 26; refine (has_any B s S q dj W9 HS9.out HDI.out).mono ?_
             rintro e W10 ⟨hb10, rfl⟩
             rw [HBB.out]
             have HB10 := Lib.hid (HB79.out.trans (hb10.mono HB79.out.size))
             clear hb10)
          | (go_at_call 51; refine (sneed_no 12 _).mono ?_; rintro e wn ⟨rfl, hwn⟩; cases hwn))
        have he10 := (HB10.out.block ze (qX HE7.out)).trans HE7.out
        have hbw10 : Below w.heap.size w W10 := HBW7.out.trans (HB10.out.mono HBW7.out.size)
        refine leaves_cons (f := 50) (args := #[.pointer (some ⟨ze, 0, none⟩)]) (by simp) (by simp [go_sem]) ?_
        refine (add_stop ze 12 0 _ he10).mono ?_
        rintro e u' w9 ⟨rfl, hset, he9, hb9⟩
        simp only [hset]
        refine ⟨_, results_one Tryz.results17 _ _ rfl (load_err16 he9), ?_⟩
        rw [HADD.out]
        exact AddGives.same HS.out (hbw10.trans (hb9.below hbw10.size fun k hk e => by have := HL.out; omega))
      · have HBB := Lib.hid hb
        have HNX := Lib.hid ((HGJ.out true hb).resolve_right (by decide))
        clear hb
        go_wp2_with (first
          | (with_reducible refine at_load ?_
             refine wp_val (by rfl) (ldD HDI.out HZ9.out) ?_)
          | (go_at_call 26; refine (has_any B s S q dj W9 HS9.out HDI.out).mono ?_
             rintro e W10 ⟨hb10, rfl⟩
             rw [HBB.out]
             have HB10 := Lib.hid (HB79.out.trans (hb10.mono HB79.out.size))
             clear hb10)
          | (go_at_call 51; refine (sneed_yes 12 _).mono ?_; rintro e wn ⟨rfl, hwn⟩; cases hwn))
        go_roundw
        case rel => exact ⟨j + 1, by omega, by go_num, HB10, HNX⟩
        case measure => (simp [intOf]) <;> omega
    · have HDEP : Hid (c.2.1.all (fun d => (entryAt S d).isSome) = true) := Lib.hid (List.all_eq_true.2 fun d hd => by
        obtain ⟨k, hk, rfl⟩ := List.getElem_of_mem hd
        exact HALL.out k hk (by omega))
      have HADC2 := Lib.hid (HADC.out.trans (if_neg (by rw [HDEP.out]; decide)))
      have HE8 := Lib.hid ((HBR.out.block ze (qX HE7.out)).trans HE7.out)
      have HY58 := Lib.hid ((HBR.out.block b5 (qX HY57.out)).trans HY57.out)
      have HY48 := Lib.hid ((HBR.out.block b4 (qX HY47.out)).trans HY47.out)
      have c51 : wr.cell? ⟨b5, 1, none⟩ = some (.slice Ad c.2.1.length cd) := cells_at0 HY58.out 1
      go_upto_region 15 with fail
      clear c51 HE7 HY57 HY47 HADC HDEP HALL hj HSR
      clear HBW7
      obtain ⟨W7', hW7'⟩ : ∃ z, wr = z := ⟨_, rfl⟩
      rw [hW7'] at HBWR HE8 HY58 HY48 ⊢
      clear HBR hW7'
      rename_i wr0
      clear hlt
      go_loopw [54] (fun t54 wr => ∃ j : Nat, j ≤ c.2.1.length ∧ t54 = .int .i64 (j : Int) ∧ Hid (Below W7'.heap.size W7' wr) ∧ Hid (∀ k (hk : k < c.2.1.length), k < j → timeAt S c.2.1[k] < c.1)) (fun t54 _ => c.2.1.length - (intOf t54).toNat)
      case atStart => exact ⟨0, Nat.zero_le _, rfl, Lib.hid (qB _ _), Lib.hid fun k hk h => absurd h (by omega)⟩
      case round =>
        obtain ⟨j, hj, rfl, HBR, HALL⟩ := hrel
        have HBW9 : Hid (Below w.heap.size w wr) := Lib.hid (HBWR.out.trans (HBR.out.mono HBWR.out.size))
        have HSR := Lib.hid (HS.out.keep HBW9.out)
        by_cases hlt : j < c.2.1.length
        · have i0 : (0 : Int) ≤ (j : Int) := by omega
          have i1 : (j : Int) < (c.2.1.length : Int) := by omega
          obtain ⟨bd, off, rfl, hbd, hdc⟩ := (H1.out.keep HBW9.out).2 (by omega)
          have HROW := Lib.hid (show wr.rangeAt bd (off + j * 32) (idV c.2.1[j]) from fun k u hk => Sl.id (B := 0) HF.out.ok.2.1 hdc hlt k u hk)
          have HDI : Hid (IdOk c.2.1[j]) := Lib.hid (HF.out.ok.2.1 _ (List.getElem_mem hlt))
          have HGJ := Lib.hid (show timeAt S c.2.1[j] < c.1 → (∀ k (hk : k < c.2.1.length), k < j + 1 → timeAt S c.2.1[k] < c.1) from fun hb k hk hkj => by
            rcases (by omega : k < j ∨ k = j) with q | rfl
            · exact HALL.out k hk q
            · exact hb)
          have HNO := Lib.hid (show ¬ timeAt S c.2.1[j] < c.1 → c.2.1.all (fun d => decide (timeAt S d < c.1)) = false from fun hb => List.all_eq_false.2 ⟨_, List.getElem_mem hlt, by rw [dF hb]; decide⟩)
          clear hdc
          generalize c.2.1[j] = dj at *
          have hdl : (idV dj).length = 32 := by rw [idV_length]; exact HDI.out
          go_upto_region 17 with (first
            | (with_reducible refine at_load ?_
               refine wp_val (by rfl) (ldD HDI.out HROW.out) ?_)
            | (with_reducible refine at_alloc ?_
               refine wp_allocM (by rfl) 41 rfl (idV zero32) (by kernel_rfl) ?_
               intro W8 hb8 hy8 hs8
               have HB8 := Lib.hid hb8; have HZ8 := Lib.hid hy8
               clear hb8 hy8 hs8)
            | (with_reducible refine at_store ?_
               refine wp_storeM (by rfl) 41 _ _ rfl wr.heap.size 0 [] (idV zero32) [] (idV dj) 41 (.agg (idV dj).toArray) rfl rfl rfl rfl (by simpa using HZ8.out) (by rw [hdl]; rfl) (by rw [hdl]; kernel_rfl) (idV_one _) ?_
               intro W9 hb9 hy9 hs9
               have HB9 := Lib.hid (HB8.out.trans (hb9.below (B := wr.heap.size) HB8.out.size (fun k hk e => by have e2 : k = wr.heap.size := e; omega)))
               have HZ9 : Hid (W9.heap[wr.heap.size]? = some (.cells (idV dj).toArray 41 (0, 0))) := Lib.hid (by simpa using hy9)
               clear hb9 hy9 hs9))
          have HS9 := Lib.hid (HSR.out.keep HB9.out)
          have HB79 : Hid (Below W7'.heap.size W7' W9) := Lib.hid (HBR.out.trans (HB9.out.mono HBR.out.size))
          have HY59 := Lib.hid ((HB79.out.block b5 (qX HY58.out)).trans HY58.out)
          clear HB8 HZ8 HROW HB9 HSR
          obtain ⟨b11, hb11⟩ : ∃ z, wr.heap.size = z := ⟨_, rfl⟩
          rw [hb11] at HZ9 ⊢
          clear hb11
          obtain ⟨g1, g2, g3, g4, hgf⟩ := entryG_form S q dj
          have HGF := Lib.hid hgf
          clear hgf
          have HFU := Lib.hid (show ∀ u : World, Below W9.heap.size W9 u → u.cell? ⟨s, 2, none⟩ = some (.map (some q.bc)) ∧ u.rangeAt b11 0 (idV dj) ∧ u.cell? ⟨b5, 0, none⟩ = some (.int .i64 c.1) from fun u hu => ⟨cells_at0 (HS9.out.keep hu).box 2, fun k v hk => by rw [qZ]; exact (cells_at0 ((hu.block b11 (qX HZ9.out)).trans HZ9.out) k).trans hk, cells_at0 ((hu.block b5 (qX HY59.out)).trans HY59.out) 0⟩)
          have hEN := enE Tryz.func51 rfl
          by_cases hb : timeAt S dj < c.1
          · have HTB : Hid (decide (timeAt S dj < c.1) = true) := Lib.hid (dT hb)
            have HNX := Lib.hid (HGJ.out hb)
            clear hb
            refine rN 11 (fun u => Below W9.heap.size W9 u) (qD _ _) fun hF0 => ?_
            refine tw 0 (.pointer (some ⟨s, 0, none⟩)) ?_ (hQ := by exact fun _ _ _ h => add_hQ (by decide) h)
            go_frame
            refine tw 1 (.pointer (some ⟨s, 0, none⟩)) ?_ (hQ := by exact fun _ _ _ h => add_hQ (by decide) h)
            go_frame
            refine tw 2 (.pointer (some ⟨s, 2, none⟩)) ?_ (hQ := by exact fun _ _ _ h => add_hQ (by decide) h)
            go_frame
            refine tl 3 (.map (some q.bc)) rfl hF0 (fun w' hw' => l1 Tryz.underlying85 (HFU.out w' hw').1) ?_ (hQ := by exact fun _ _ _ h => add_hQ (by decide) h)
            go_frame
            refine tl 4 (.agg (idV dj).toArray) rfl hF0 (fun w' hw' => ldD HDI.out (HFU.out w' hw').2.1) ?_ (hQ := by exact fun _ _ _ h => add_hQ (by decide) h)
            go_frame
            refine tl 5 (.agg [.int .i64 (timeAt S dj), g1, g2, g3, g4].toArray) rfl hF0 (fun w' hw' => ex_mapGet1 idEnc Tryz.underlying85 (entryZ_run _) (HS9.out.keep hw').mapC HDI.out ((entryG_is S q dj).trans (by rw [HGF.out]))) ?_ (hQ := by exact fun _ _ _ h => add_hQ (by decide) h)
            go_frame
            refine tw 6 (.agg [.int .i64 (timeAt S dj), g1, g2, g3].toArray) ?_ (hQ := by exact fun _ _ _ h => add_hQ (by decide) h)
            go_frame
            refine tw 7 (.int .i64 (timeAt S dj)) ?_ (hQ := by exact fun _ _ _ h => add_hQ (by decide) h)
            go_frame
            refine tw 8 (.pointer (some ⟨b5, 0, none⟩)) ?_ (hQ := by exact fun _ _ _ h => add_hQ (by decide) h)
            go_frame
            refine tl 9 (.int .i64 c.1) rfl hF0 (fun w' hw' => l1 Tryz.underlying3 (HFU.out w' hw').2.2) ?_ (hQ := by exact fun _ _ _ h => add_hQ (by decide) h)
            go_frame
            refine tk 10 (.bool true) rfl (fun w' hw' => ex_lssB _ _ _ rfl rfl rfl HTB.out) ?_ (hQ := by exact fun _ _ _ h => add_hQ (by decide) h)
            go_frame
            refine ta 11 ?_
            refine tc #[.bool true, .int .i64 21] hEN rfl ?_
            refine (sneed_yes 21 _).mono ?_
            rintro e wn ⟨rfl, hwn⟩
            cases hwn
            refine ⟨_, rfl, fun h => absurd h (by decide), ?_⟩
            go_frame
            refine wpAnyN_done (by kernel_rfl) ?_ _
            go_wp2_with fail
            go_roundw
            case rel => exact ⟨j + 1, by omega, by go_num, Lib.hid (HB79.out.drew), HNX⟩
            case measure => (simp [intOf]) <;> omega
          · have HTB : Hid (decide (timeAt S dj < c.1) = false) := Lib.hid (dF hb)
            have HADD : Hid (addAt S (idC c) i c = (21, S)) := Lib.hid (HADC2.out.trans (if_pos (HNO.out hb)))
            clear hb
            refine rN 11 (fun u => Below W9.heap.size W9 u) (qD _ _) fun hF0 => ?_
            refine tw 0 (.pointer (some ⟨s, 0, none⟩)) ?_ (hQ := by exact fun _ _ _ h => add_hQ (by decide) h)
            go_frame
            refine tw 1 (.pointer (some ⟨s, 0, none⟩)) ?_ (hQ := by exact fun _ _ _ h => add_hQ (by decide) h)
            go_frame
            refine tw 2 (.pointer (some ⟨s, 2, none⟩)) ?_ (hQ := by exact fun _ _ _ h => add_hQ (by decide) h)
            go_frame
            refine tl 3 (.map (some q.bc)) rfl hF0 (fun w' hw' => l1 Tryz.underlying85 (HFU.out w' hw').1) ?_ (hQ := by exact fun _ _ _ h => add_hQ (by decide) h)
            go_frame
            refine tl 4 (.agg (idV dj).toArray) rfl hF0 (fun w' hw' => ldD HDI.out (HFU.out w' hw').2.1) ?_ (hQ := by exact fun _ _ _ h => add_hQ (by decide) h)
            go_frame
            refine tl 5 (.agg [.int .i64 (timeAt S dj), g1, g2, g3, g4].toArray) rfl hF0 (fun w' hw' => ex_mapGet1 idEnc Tryz.underlying85 (entryZ_run _) (HS9.out.keep hw').mapC HDI.out ((entryG_is S q dj).trans (by rw [HGF.out]))) ?_ (hQ := by exact fun _ _ _ h => add_hQ (by decide) h)
            go_frame
            refine tw 6 (.agg [.int .i64 (timeAt S dj), g1, g2, g3].toArray) ?_ (hQ := by exact fun _ _ _ h => add_hQ (by decide) h)
            go_frame
            refine tw 7 (.int .i64 (timeAt S dj)) ?_ (hQ := by exact fun _ _ _ h => add_hQ (by decide) h)
            go_frame
            refine tw 8 (.pointer (some ⟨b5, 0, none⟩)) ?_ (hQ := by exact fun _ _ _ h => add_hQ (by decide) h)
            go_frame
            refine tl 9 (.int .i64 c.1) rfl hF0 (fun w' hw' => l1 Tryz.underlying3 (HFU.out w' hw').2.2) ?_ (hQ := by exact fun _ _ _ h => add_hQ (by decide) h)
            go_frame
            refine tk 10 (.bool false) rfl (fun w' hw' => ex_lssB _ _ _ rfl rfl rfl HTB.out) ?_ (hQ := by exact fun _ _ _ h => add_hQ (by decide) h)
            go_frame
            refine ta 11 ?_
            refine wpOp_callP (ch := stopP 21) _ rfl (by kernel_rfl) (ex_callFn (f := 51) (args := #[.bool false, .int .i64 21]) rfl rfl (fun args w => hEN w args) (by simp only [List.map_toArray, List.map_cons, List.map_nil]; rfl)) ?_
            refine (sneed_no 21 _).mono ?_
            rintro e wn ⟨rfl, hwn⟩
            cases hwn
            refine ⟨rfl, ?_⟩
            have he10 : W9.drew.heap[ze]? = _ := (HB79.out.block ze (qX HE8.out)).trans HE8.out
            have hbw10 : Below w.heap.size w W9.drew := (HBWR.out.trans (HB79.out.mono HBWR.out.size)).drew
            refine leaves_cons (f := 50) (args := #[.pointer (some ⟨ze, 0, none⟩)]) (by simp) (by simp [go_sem]) ?_
            refine (add_stop ze 21 0 _ he10).mono ?_
            rintro e u' w9 ⟨rfl, hset, he9, hb9⟩
            simp only [hset]
            refine ⟨_, results_one Tryz.results17 _ _ rfl (load_err16 he9), ?_⟩
            rw [HADD.out]
            exact AddGives.same HS.out (hbw10.trans (hb9.below hbw10.size fun k hk e => by have := HL.out; omega))
        · have HTM : Hid (c.2.1.all (fun d => decide (timeAt S d < c.1)) = true) := Lib.hid (List.all_eq_true.2 fun d hd => by
            obtain ⟨k, hk, rfl⟩ := List.getElem_of_mem hd
            exact dT (HALL.out k hk (by omega)))
          have HADC3 := Lib.hid (HADC2.out.trans (if_neg (by rw [HTM.out]; decide)))
          have HE9 := Lib.hid ((HBR.out.block ze (qX HE8.out)).trans HE8.out)
          have HY59 := Lib.hid ((HBR.out.block b5 (qX HY58.out)).trans HY58.out)
          have HY49 := Lib.hid ((HBR.out.block b4 (qX HY48.out)).trans HY48.out)
          have hfl := HF.out.len
          go_upto_region 19 with fail
          obtain ⟨W10, hW10⟩ : ∃ z, wr = z := ⟨_, rfl⟩
          rw [hW10] at HBW9 HE9 HY59 HY49 ⊢
          clear HBR HALL HTM hj HSR HE8 HY58 HY48 HADC2 hlt hW10 HBWR
          rename_i wrb
          have HS10 := Lib.hid (HS.out.keep HBW9.out)
          have HFU := Lib.hid (show ∀ u : World, Below W10.heap.size W10 u → u.cell? ⟨b5, 1, none⟩ = some (.slice Ad c.2.1.length cd) ∧ u.cell? ⟨b5, 3, none⟩ = some (.slice Ao c.2.2.2.length co) from fun u hu => ⟨cells_at0 ((hu.block b5 (qX HY59.out)).trans HY59.out) 1, cells_at0 ((hu.block b5 (qX HY59.out)).trans HY59.out) 3⟩)
          have hEA := enE Tryz.func42 rfl
          have hEB := enE Tryz.func43 rfl
          refine rN 6 (fun u => Below W10.heap.size W10 u) (qD _ _) fun hF0 => ?_
          refine tw 0 (.pointer (some ⟨b5, 1, none⟩)) ?_ (hQ := by exact fun _ _ _ h => add_hQ (by decide) h)
          go_frame
          refine tl 1 (.slice Ad c.2.1.length cd) rfl hF0 (fun w' hw' => l1 Tryz.underlying34 (HFU.out w' hw').1) ?_ (hQ := by exact fun _ _ _ h => add_hQ (by decide) h)
          go_frame
          refine tw 3 (.pointer (some ⟨b5, 3, none⟩)) ?_ (hQ := by exact fun _ _ _ h => add_hQ (by decide) h)
          go_frame
          refine tl 4 (.slice Ao c.2.2.2.length co) rfl hF0 (fun w' hw' => l1 Tryz.underlying35 (HFU.out w' hw').2) ?_ (hQ := by exact fun _ _ _ h => add_hQ (by decide) h)
          go_frame
          refine ta 2 ?_
          refine tc #[.slice Ad c.2.1.length cd] hEA rfl ?_
          refine (cloneIds15 c.2.1 Ad cd W10.drew hnd (((H1.out.keep HBW9.out).more HBW9.out.size).keep (qD _ _))).mono ?_
          rintro e u1 ⟨hu1, v1, rfl, ho1⟩
          have HU1 := Lib.hid ((qD W10.heap.size W10).trans (hu1.mono (qD W10.heap.size W10).size)); have HO1 := Lib.hid ho1
          obtain ⟨A1, c1, rfl⟩ := own_form ho1
          clear hu1 ho1
          refine ⟨_, rfl, fun _ _ => HU1.out, ?_⟩
          go_frame
          refine tw 6 (.pointer (some ⟨b5, 1, none⟩)) ?_ (hQ := by exact fun _ _ _ h => add_hQ (by decide) h)
          go_frame
          refine ta 5 ?_
          refine tc #[.slice Ao c.2.2.2.length co] hEB rfl ?_
          refine (cloneOps15 c.2.2.2 Ao co u1 (by omega) (((H2.out.keep HBW9.out).more HBW9.out.size).keep HU1.out |>.more HU1.out.size)).mono ?_
          rintro e u2 ⟨hu2, v2, rfl, ho2⟩
          have HU2 := Lib.hid (HU1.out.trans (hu2.mono HU1.out.size)); have HO2 := Lib.hid ho2
          have HO12 := Lib.hid ((But.of_below (X := NoB) hu2).own HO1.out fun _ _ q => q)
          have HSU := Lib.hid (show W10.heap.size ≤ u1.heap.size from HU1.out.size)
          obtain ⟨A2, c2, rfl⟩ := own_form ho2
          clear hu2 ho2
          refine ⟨_, rfl, fun _ _ => HU2.out, ?_⟩
          go_frame
          have HY5u := Lib.hid ((HU2.out.block b5 (qX HY59.out)).trans HY59.out)
          refine ta 7 ?_
          refine wpOp_storeM _ rfl (by kernel_rfl) 34 _ _ rfl b5 1 [.int .i64 c.1] [.slice Ad c.2.1.length cd] [.string c.2.2.1, .slice Ao c.2.2.2.length co] [.slice A1 c.2.1.length c1] 37 (.slice A1 c.2.1.length c1) rfl rfl rfl rfl HY5u.out rfl (by kernel_rfl) (by intro u hu; rw [List.mem_singleton.1 hu]; rfl) ?_
          intro u3 hb3 hy3 hs3
          have HB3 := Lib.hid hb3; have HY3 := Lib.hid hy3
          clear hb3 hy3 hs3
          refine ⟨fun h => absurd h (by decide), ?_⟩
          go_frame
          refine tw 8 (.pointer (some ⟨b5, 3, none⟩)) ?_ (hQ := by exact fun _ _ _ h => add_hQ (by decide) h)
          go_frame
          refine ta 9 ?_
          refine wpOp_storeM _ rfl (by kernel_rfl) 35 _ _ rfl b5 3 [.int .i64 c.1, .slice A1 c.2.1.length c1, .string c.2.2.1] [.slice Ao c.2.2.2.length co] [] [.slice A2 c.2.2.2.length c2] 37 (.slice A2 c.2.2.2.length c2) rfl rfl rfl rfl HY3.out rfl (by kernel_rfl) (by intro u hu; rw [List.mem_singleton.1 hu]; rfl) ?_
          intro u4 hb4 hy4 hs4
          have HB4 := Lib.hid hb4; have HY4 := Lib.hid hy4
          clear hb4 hy4 hs4
          refine ⟨fun h => absurd h (by decide), ?_⟩
          go_frame
          refine wpAnyN_done (by kernel_rfl) ?_ _
          have hb24 : But (fun k => k = b5) u2 u4 := HB3.out.trans HB4.out fun k _ e => e
          have HBW11 : Hid (Below w.heap.size w u4) := Lib.hid ((HBW9.out.trans (HU2.out.mono HBW9.out.size)).trans (hb24.below (qT HBW9.out.size HU2.out.size) fun k hk e => by have := HL.out; omega))
          have hne5 : ∀ {k : Nat} {cur : Array Value} {t : TypeId} {fr : Nat × Nat}, u2.heap[k]? = some (.cells cur t fr) → t ≠ 37 → u4.heap[k]? = some (.cells cur t fr) := fun {k cur t fr} hc ht => (hb24.block k (qX hc) (ne_tag hc HY5u.out ht)).trans hc
          have HMD : Hid (AddMid u4 b4 b5 ze w.heap.size i c A1 c1 A2 c2) := Lib.hid ⟨hne5 ((HU2.out.block b4 (qX HY49.out)).trans HY49.out) (by decide), by simpa using HY4.out, hne5 ((HU2.out.block ze (qX HE9.out)).trans HE9.out) (by decide), own_lower (hb24.own HO12.out fun g hg e => by
              obtain ⟨cc, hcc⟩ := own_tagged HO12.out hg
              exact ne_tag hcc HY5u.out (by decide) e) HBW9.out.size, own_lower (hb24.own HO2.out fun g hg e => by
              obtain ⟨cc, hcc⟩ := own_tagged HO2.out hg
              exact ne_tag hcc HY5u.out (by decide) e) (qT HBW9.out.size HSU.out)⟩
          have HS11 := Lib.hid (HS.out.keep HBW11.out)
          clear hb24 hne5 HB3 HY3 HB4 HY4 HY5u HU1 HU2 HO1 HO2 HO12 hF0 HFU HS10 HE9 HY59 HY49 HBW9 HSU hEA hEB
          have HR4 := Lib.hid (show u4.rangeAt b4 0 (idV i) from fun j u hj => by rw [qZ]; exact (cells_at0 HMD.out.id j).trans hj)
          have HR5 := Lib.hid (show u4.rangeAt b5 0 (chC c.1 A1 c.2.1.length c1 c.2.2.1 A2 c.2.2.2.length c2) from fun j u hj => by rw [qZ]; exact (cells_at0 HMD.out.chg j).trans hj)
          have hadl : (Value.pointer (some ⟨s, 0, none⟩) :: (idV i ++ [.int .i64 c.1, .slice A1 c.2.1.length c1, .string c.2.2.1, .slice A2 c.2.2.2.length c2, .slice none 0 0])).length = 38 := by simp [hil, hi32]
          go_upto_region 21 with (first
            | (with_reducible refine at_load ?_
               refine wp_val (by rfl) (ldD HI.out HR4.out) ?_)
            | (with_reducible refine at_load ?_
               refine wp_val (by rfl) (ex_load 37 _ rfl (p := ⟨b5, 0, none⟩) rfl (qV _ b5 0 _ _ _ HR5.out Tryz.underlying37 rfl (by kernel_rfl))) ?_)
            | (with_reducible refine at_build ?_
               refine wp_val (by rfl) (ex_build 127 _ rfl (by simp only [List.map_toArray, List.map_cons, List.map_nil]; exact adder_built s i HI.out _ _ _ _ _ _ _ _ _)) ?_)
            | (with_reducible refine at_box ?_
               refine wp_boxM (by rfl) 127 _ rfl _ _ rfl rfl (by rw [hadl]; kernel_rfl) ?_
               intro W12 hb12 hy12 hs12
               have HB12 := Lib.hid hb12; have HY12 := Lib.hid hy12
               clear hb12 hy12 hs12))
          obtain ⟨a, ha⟩ : ∃ z, u4.heap.size = z := ⟨_, rfl⟩
          have HLA := Lib.hid (show w.heap.size ≤ a by have := HBW11.out.size; omega)
          rw [ha] at HY12 ⊢
          have HAD12 : Hid (AdderAt W12 a s i c (.slice A1 c.2.1.length c1) (.slice A2 c.2.2.2.length c2) (.slice none 0 0)) := Lib.hid ⟨HY12.out, HI.out⟩
          have HBW12 : Hid (Below w.heap.size w W12) := Lib.hid (HBW11.out.trans (HB12.out.mono HBW11.out.size))
          have HMD12 := Lib.hid (HMD.out.keep HB12.out)
          clear ha HB12 HY12 HR4 HR5 HMD HBW11 HS11
          have c53 : W12.cell? ⟨b5, 3, none⟩ = some (.slice A2 c.2.2.2.length c2) := cells_at0 HMD12.out.chg 3
          obtain ⟨im, hmi, hm0, hm1, hm2⟩ := info_parts infoInt15
          go_upto_region 22 with (first
            | (refine wpList_make_own W12 rfl _ _ 128 rfl w.heap.size 3 im (.int .i64 0) 1 Tryz.underlying128 hmi hm0 hm1 .i64 .i64 _ c.2.2.2.length rfl rfl rfl (by rw [hm2]; omega) (by unfold maxLen; omega) (by have := HBW12.out.size; omega) ?_
               intro W13 ho13 hg13
               have HO13 := Lib.hid ho13
               have HB13 : Hid (Below W12.heap.size W12 W13) := Lib.hid ((qB _ _).grown hg13 (qR _) (fun k e => by cases e))
               clear ho13 hg13))
          clear c53 hmi hm0 hm1 hm2
          have HAD13 := Lib.hid (HAD12.out.keep HB13.out)
          have HMD13 := Lib.hid (HMD12.out.keep HB13.out)
          have HBW13 : Hid (Below w.heap.size w W13) := Lib.hid (HBW12.out.trans (HB13.out.mono HBW12.out.size))
          clear HAD12 HMD12 HBW12 HB13
          have c53 : W13.cell? ⟨b5, 3, none⟩ = some (.slice A2 c.2.2.2.length c2) := cells_at0 HMD13.out.chg 3
          go_upto_region 23 with fail
          clear c53
          have hops := HF.out.fine HEN.out
          have HFO := Lib.hid hops
          clear hops
          go_loopw [13, 91] (fun t13 t91 wr => ∃ (j : Nat) (An : Option Addr) (cn : Nat) (Am : Option Addr) (cm : Nat) (mk : List MakeD) (ns : List Nat), j ≤ c.2.2.2.length ∧ t91 = .int .i64 (j : Int) ∧ t13 = .slice An j cn ∧ ns.length = j ∧ Hid (Below w.heap.size w wr) ∧ Hid (wr.ownsRow w.heap.size 3 1 (.slice An j cn) j (intsV ns)) ∧ Hid (AdderAt wr a s i c (.slice A1 c.2.1.length c1) (.slice A2 c.2.2.2.length c2) (.slice Am mk.length cm)) ∧ Hid (wr.ownsRow w.heap.size 199 35 (.slice Am mk.length cm) mk.length (rowsV makeV mk)) ∧ Hid (AddMid wr b4 b5 ze w.heap.size i c A1 c1 A2 c2) ∧ Hid (fitsAt S i c.1 [] (c.2.2.2.take j) = some (mk, ns)) ∧ Hid ((∀ m ∈ mk, KeyOk m.2) ∧ mk.length ≤ mkN (c.2.2.2.take j))) (fun _ t91 _ => c.2.2.2.length - (intOf t91).toNat)
          case atStart => exact ⟨0, some ⟨W12.heap.size, 0, none⟩, c.2.2.2.length, none, 0, [], [], Nat.zero_le _, rfl, rfl, rfl, HBW13, HO13, HAD13, Lib.hid (World.ownsRow_nil _ _ _ _), HMD13, Lib.hid rfl, Lib.hid ⟨fun m hm => (by cases hm), Nat.zero_le _⟩⟩
          case round =>
            obtain ⟨j, An, cn, Am, cm, mk, ns, hj, rfl, rfl, hns, HBR, HON, HAD, HOM, HMID, HFS, HKM⟩ := hrel
            have HSR := Lib.hid (HS.out.keep HBR.out)
            by_cases hlt : j < c.2.2.2.length
            · have i0 : (0 : Int) ≤ (j : Int) := by omega
              have i1 : (j : Int) < (c.2.2.2.length : Int) := by omega
              have hml : mk.length ≤ 1073741824 := Nat.le_trans HKM.out.2 (Nat.le_trans (mkN_le _ _) HF.out.made)
              obtain ⟨g2, cap2, tail2, hv2, hB2, hg2, _⟩ := own_open HMID.out.ops (by omega)
              injection hv2 with eA _ eC
              subst eA eC
              have HXF := Lib.hid (HFO.out _ (List.getElem_mem hlt))
              have HROW := Lib.hid (show wr.rangeAt g2 (j * 70) (opV c.2.2.2[j]) from fun k u hk => by
                have hr := rowsV_get (enc := opV) (sz := 70) (fun x hx => opV_length (HF.out.ops x hx)) j hlt k u hk
                rw [cells_at0 hg2, List.getElem?_append_left (List.getElem?_eq_some_iff.1 hr).1]
                exact hr)
              have HTK := Lib.hid (List.take_succ_eq_append_getElem hlt)
              have HTN := Lib.hid (mkN_snoc c.2.2.2 hlt)
              have HTD := Lib.hid (show c.2.2.2 = (c.2.2.2.take j ++ [c.2.2.2[j]]) ++ c.2.2.2.drop (j + 1) by rw [← List.take_succ_eq_append_getElem hlt, List.take_append_drop])
              clear hg2
              obtain ⟨x, hx⟩ : ∃ x, c.2.2.2[j] = x := ⟨_, rfl⟩
              rw [hx] at HXF HROW HTK HTN HTD
              clear hx
              have hol := opV_length HXF.out.fin
              go_upto_region 25 with (first
                | (with_reducible refine at_load ?_
                   refine wp_loadN rfl 112 _ rfl g2 _ rfl (opV x) _ HROW.out Tryz.underlying112 rfl (by rw [hol]; kernel_rfl) ?_)
                | (with_reducible refine at_alloc ?_
                   refine wp_allocM (by rfl) 112 rfl (opV (0, zeroRef, zeroRef, noneS, 0, noneS)) (opZ15 _) ?_
                   intro W14 hb14 hy14 hs14
                   have HB14 := Lib.hid hb14; have HY14 := Lib.hid hy14
                   clear hb14 hy14 hs14)
                | (with_reducible refine at_store ?_
                   refine wp_storeM (by rfl) 112 _ _ rfl wr.heap.size 0 [] (opV (0, zeroRef, zeroRef, noneS, 0, noneS)) [] (opV x) 112 _ rfl rfl rfl rfl (by simpa using HY14.out) (by rw [hol]; rfl) (by rw [hol]; kernel_rfl) (opV_one _) ?_
                   intro W15 hb15 hy15 hs15
                   have HB15 := Lib.hid (HB14.out.trans (hb15.below (B := wr.heap.size) HB14.out.size (fun k hk e => by have e2 : k = wr.heap.size := e; omega)))
                   have HY15 : Hid (W15.heap[wr.heap.size]? = some (.cells (opV x).toArray 112 (0, 0))) := Lib.hid (by simpa using hy15)
                   clear hb15 hy15 hs15))
              obtain ⟨b15, hb15⟩ : ∃ z, wr.heap.size = z := ⟨_, rfl⟩
              have HL15 := Lib.hid (show w.heap.size ≤ b15 by have := HBR.out.size; omega)
              rw [hb15] at HY15 ⊢
              have HAD15 := Lib.hid (HAD.out.keep HB15.out)
              have HON15 := Lib.hid ((But.of_below (X := NoB) HB15.out).own HON.out fun _ _ q => q)
              have HOM15 := Lib.hid ((But.of_below (X := NoB) HB15.out).own HOM.out fun _ _ q => q)
              have HMD15 := Lib.hid (HMID.out.keep HB15.out)
              have HBW15 : Hid (Below w.heap.size w W15) := Lib.hid (HBR.out.trans (HB15.out.mono HBR.out.size))
              clear HB14 HY14 hb15 HB15 HAD HON HOM HMID HROW HSR
              have c37 : W15.cell? ⟨a, 37, none⟩ = some (.slice Am mk.length cm) := HAD15.out.rest 4
              have HZW := Lib.hid HBW15.out.size
              have HNO := Lib.hid (fun (u : World) (hu : Below W15.heap.size W15 u) => (But.of_below (X := NoB) hu).own HON15.out fun _ _ q => q)
              go_upto_region 26 with (first
                | (at_builtin; refine wp_appS_w (by rfl) _ _ 128 rfl w.heap.size 3 (.int .i64 0) 1 8 Tryz.underlying128 infoInt15 rfl (by decide) (.slice An j cn) j (intsV ns) rfl (HNO.out _ ((qB _ _).alloc (qR _) _)) ⟨W15.heap.size, 0, none⟩ 1 1 [.int .i64 (mk.length : Int)] rfl rfl (news_cells W15 _ _) (by intro u hu; rw [List.mem_singleton.1 hu]; rfl) (by unfold maxLen; omega) (by omega) (by have := HZW.out; simp; omega) ?_
                   intro v16 w16 ho16 hg16 hw16
                   have HB16 : Hid (But (fun k => (Value.slice An j cn).ownBlock = some k) W15 w16) := Lib.hid (((But.refl _ W15).alloc _).grown hg16 fun k e _ => e)
                   have HO16 := Lib.hid ho16
                   obtain ⟨A16, c16, rfl⟩ := own_form ho16
                   clear ho16 hg16 hw16))
              clear c37 HNO
              have hx16 : ∀ {k : Nat}, (Value.slice An j cn).ownBlock = some k → ∃ cur, W15.heap[k]? = some (.cells cur 3 (0, 0)) := fun h => own_tagged HON15.out h
              have hbw16 : Below w.heap.size w w16 := HBW15.out.trans (HB16.out.below HBW15.out.size fun k hk e => by
                have h1 := (HON15.out.lt k e).1
                omega)
              have HBW16 := Lib.hid hbw16
              have HMD16 := Lib.hid (HMD15.out.but HB16.out fun k hk cur t fr hc => by
                obtain ⟨cc, hcc⟩ := hx16 hk
                rw [hc] at hcc
                injection hcc with hcc
                injection hcc with _ hcc
                subst hcc
                decide)
              have HAD16 : Hid (AdderAt w16 a s i c (.slice A1 c.2.1.length c1) (.slice (some ⟨g2, 0, none⟩) c.2.2.2.length c2) (.slice Am mk.length cm)) := Lib.hid ⟨(HB16.out.block a (qX HAD15.out.box) fun e => by
                obtain ⟨cc, hcc⟩ := hx16 e
                exact ne_tag hcc HAD15.out.box (by decide) rfl).trans HAD15.out.box, HI.out⟩
              have HOM16 := Lib.hid (HB16.out.own HOM15.out fun g hg e => by
                obtain ⟨c3, h3⟩ := own_tagged HOM15.out hg
                obtain ⟨cc, hcc⟩ := hx16 e
                exact ne_tag hcc h3 (by decide) rfl)
              have HY16 := Lib.hid ((HB16.out.block b15 (qX HY15.out) fun e => by
                obtain ⟨cc, hcc⟩ := hx16 e
                exact ne_tag hcc HY15.out (by decide) rfl).trans HY15.out)
              have HR16 := Lib.hid (show w16.rangeAt b15 0 (opV x) from fun k u hk => by rw [qZ]; exact (cells_at0 HY16.out k).trans hk)
              have HMM : Hid (MidAt w16 B a s S q i c (.slice A1 c.2.1.length c1) (.slice (some ⟨g2, 0, none⟩) c.2.2.2.length c2) Am cm mk) := Lib.hid ⟨HS.out.keep HBW16.out, HAD16.out, own_lower HOM16.out (Nat.zero_le _), HKM.out.1, by omega⟩
              have HFIT := Lib.hid (fit_any w.heap.size B a s S q i c _ _ Am cm mk x w16 HMM.out HOM16.out HBW16.out.size hml HF.out.ok.1 HXF.out)
              clear hx16 hbw16 HMD15 HAD15 HOM15 HY15 HBW15 HB16 HON15 HY16
              have HSN := Lib.hid (fitsAt_snoc S i c.1 x (c.2.2.2.take j) [])
              rw [HFS.out, Option.bind_some] at HSN
              cases hfa : fitAt S i c.1 mk x with
              | none =>
                have HADD : Hid (addAt S (idC c) i c = (22, S)) := Lib.hid (HADC3.out.trans (by
                  have e : fitsAt S i c.1 [] c.2.2.2 = none := by
                    rw [HTD.out]
                    refine fitsAt_none S i c.1 _ _ [] ?_
                    rw [HSN.out, hfa]
                    rfl
                  rw [e]))
                have HFA := Lib.hid hfa
                clear hfa
                go_wp2_with (first
                  | (with_reducible refine at_load ?_
                     refine wp_val (by rfl) (ex_load 112 _ rfl (p := ⟨b15, 0, none⟩) rfl (qV _ b15 0 _ (opV x) _ HR16.out Tryz.underlying112 rfl (by rw [hol]; kernel_rfl))) ?_)
                  | (go_at_call 52; refine HFIT.out.mono ?_
                     rintro e w17 (⟨mk2, hq, _⟩ | ⟨_, rfl, hb17⟩)
                     · rw [HFA.out] at hq
                       cases hq
                     have HB17 := Lib.hid hb17
                     clear hb17))
                have he17 := (HB17.out.block ze (qX HMD16.out.err)).trans HMD16.out.err
                have hbw17 : Below w.heap.size w w17 := HBW16.out.trans (HB17.out.mono HBW16.out.size)
                refine leaves_cons (f := 50) (args := #[.pointer (some ⟨ze, 0, none⟩)]) (by simp) (by simp [go_sem]) ?_
                refine (add_stop ze 22 0 _ he17).mono ?_
                rintro e u' w9 ⟨rfl, hset, he9, hb9⟩
                simp only [hset]
                refine ⟨_, results_one Tryz.results17 _ _ rfl (load_err16 he9), ?_⟩
                rw [HADD.out]
                exact AddGives.same HS.out (hbw17.trans (hb9.below hbw17.size fun k hk e => by have := HL.out; omega))
              | some mk2 =>
                have HFA := Lib.hid hfa
                have HLN := Lib.hid (fitAt_len hfa)
                have HFS2 : Hid (fitsAt S i c.1 [] (c.2.2.2.take (j + 1)) = some (mk2, ns ++ [mk.length])) := Lib.hid (by rw [HTK.out, HSN.out, hfa]; rfl)
                clear hfa
                go_wp2_with (first
                  | (with_reducible refine at_load ?_
                     refine wp_val (by rfl) (ex_load 112 _ rfl (p := ⟨b15, 0, none⟩) rfl (qV _ b15 0 _ (opV x) _ HR16.out Tryz.underlying112 rfl (by rw [hol]; kernel_rfl))) ?_)
                  | (go_at_call 52; refine HFIT.out.mono ?_
                     rintro e w17 (⟨mk3, hq, rfl, hbt17, Am2, cm2, had17, hom17, _⟩ | ⟨hq, _⟩)
                     rotate_left
                     · rw [HFA.out] at hq
                       cases hq
                     obtain rfl : mk2 = mk3 := Option.some.inj (HFA.out.symm.trans hq)
                     have HB17 := Lib.hid hbt17; have HAD17 := Lib.hid had17; have HOM17 := Lib.hid hom17
                     clear hbt17 had17 hom17 hq))
                go_roundw
                case rel =>
                  have hx17 : ∀ k, (k = a ∨ (Value.slice Am mk.length cm).ownBlock = some k) → ∃ cur t, w16.heap[k]? = some (.cells cur t (0, 0)) ∧ (t = 127 ∨ t = 199) ∧ w.heap.size ≤ k := fun k hk => by
                    rcases hk with rfl | hk
                    · exact ⟨_, _, HAD16.out.box, .inl rfl, HLA.out⟩
                    · obtain ⟨cc, hcc⟩ := own_tagged HOM16.out hk
                      exact ⟨cc, _, hcc, .inr rfl, (HOM16.out.lt k hk).1⟩
                  refine ⟨j + 1, A16, c16, Am2, cm2, mk2, ns ++ [mk.length], by omega, by go_num, rfl, by simp [hns], Lib.hid (HBW16.out.trans (HB17.out.below HBW16.out.size fun k hk e => ?_)), Lib.hid ?_, HAD17, HOM17, Lib.hid (HMD16.out.but HB17.out fun k hk cur t fr hc => ?_), HFS2, Lib.hid ⟨fun m hm => ?_, ?_⟩⟩
                  · obtain ⟨_, _, _, _, h4⟩ := hx17 k e
                    omega
                  · rw [intsV_snoc]
                    refine HB17.out.own HO16.out fun g hg e => ?_
                    obtain ⟨c3, h3⟩ := own_tagged HO16.out hg
                    obtain ⟨cur, t, h4, h5, _⟩ := hx17 g e
                    exact ne_tag h3 h4 (by rcases h5 with rfl | rfl <;> decide) rfl
                  · obtain ⟨cur2, t2, h4, h5, _⟩ := hx17 k hk
                    rw [hc] at h4
                    injection h4 with h4
                    injection h4 with _ h4
                    subst h4
                    rcases h5 with rfl | rfl <;> decide
                  · rcases HLN.out.2 m hm with h4 | h4 | h4
                    · exact HKM.out.1 m h4
                    · rw [h4]; exact ⟨(by decide : (Lit.int .i64 0).wf = true), zero32_ok, (by decide : (Lit.int .i64 0).wf = true)⟩
                    · rw [h4]; exact keyAt_ok HS.out HI.out HF.out.ok.1 HXF.out.fin.1.1
                  · rw [HTN.out]
                    have := HLN.out.1
                    have := HKM.out.2
                    omega
                case measure => (simp [intOf]) <;> omega
            · obtain rfl : j = c.2.2.2.length := by omega
              rw [List.take_length] at HFS HKM
              have HADF := Lib.hid (show addAt S (idC c) i c = (0, dosAt i c.1 0 (S.1, S.2.1, S.2.2 ++ [(i, c, mk)]) c.2.2.2 ns) from HADC3.out.trans (by rw [HFS.out]))
              have hEN : entryAt S i = none := by
                cases hq : entryAt S i with
                | none => rfl
                | some e => have := HH.out; rw [hq] at this; cases this
              have HEI := Lib.hid hEN
              clear hEN
              go_upto_region 28 with fail
              have HFU := Lib.hid (show ∀ u : World, Below wr.heap.size wr u → u.cell? ⟨s, 2, none⟩ = some (.map (some q.bc)) ∧ u.rangeAt b4 0 (idV i) ∧ u.rangeAt b5 0 (chC c.1 A1 c.2.1.length c1 c.2.2.1 A2 c.2.2.2.length c2) ∧ u.cell? ⟨a, 37, none⟩ = some (.slice Am mk.length cm) from fun u hu => ⟨cells_at0 (HSR.out.keep hu).box 2, fun k v hk => by rw [qZ]; exact (cells_at0 (HMID.out.keep hu).id k).trans hk, fun k v hk => by rw [qZ]; exact (cells_at0 (HMID.out.keep hu).chg k).trans hk, (HAD.out.keep hu).rest 4⟩)
              refine rN 11 (fun u => Below wr.heap.size wr u) (qD _ _) fun hF0 => ?_
              refine tw 0 (.pointer (some ⟨s, 0, none⟩)) ?_ (hQ := by exact fun _ _ _ h => add_hQ (by decide) h)
              go_frame
              refine tw 1 (.pointer (some ⟨s, 0, none⟩)) ?_ (hQ := by exact fun _ _ _ h => add_hQ (by decide) h)
              go_frame
              refine tw 2 (.pointer (some ⟨s, 2, none⟩)) ?_ (hQ := by exact fun _ _ _ h => add_hQ (by decide) h)
              go_frame
              refine tl 3 (.map (some q.bc)) rfl hF0 (fun w' hw' => l1 Tryz.underlying85 (HFU.out w' hw').1) ?_ (hQ := by exact fun _ _ _ h => add_hQ (by decide) h)
              go_frame
              refine tl 4 (.agg (idV i).toArray) rfl hF0 (fun w' hw' => ldD HI.out (HFU.out w' hw').2.1) ?_ (hQ := by exact fun _ _ _ h => add_hQ (by decide) h)
              go_frame
              refine tl 5 (.agg (chC c.1 A1 c.2.1.length c1 c.2.2.1 A2 c.2.2.2.length c2).toArray) rfl hF0 (fun w' hw' => ex_load 37 _ rfl (p := ⟨b5, 0, none⟩) rfl (qV w' b5 0 _ _ _ (HFU.out w' hw').2.2.1 Tryz.underlying37 rfl (by kernel_rfl))) ?_ (hQ := by exact fun _ _ _ h => add_hQ (by decide) h)
              go_frame
              refine tw 6 (.pointer (some ⟨a, 0, none⟩)) ?_ (hQ := by exact fun _ _ _ h => add_hQ (by decide) h)
              go_frame
              refine tw 7 (.pointer (some ⟨a, 0, none⟩)) ?_ (hQ := by exact fun _ _ _ h => add_hQ (by decide) h)
              go_frame
              refine tw 8 (.pointer (some ⟨a, 37, none⟩)) ?_ (hQ := by exact fun _ _ _ h => add_hQ (by decide) h)
              go_frame
              refine tl 9 (.slice Am mk.length cm) rfl hF0 (fun w' hw' => l1 Tryz.underlying103 (HFU.out w' hw').2.2.2) ?_ (hQ := by exact fun _ _ _ h => add_hQ (by decide) h)
              go_frame
              refine tk 10 (.agg (entryV (c, mk) (.slice A1 c.2.1.length c1, .slice A2 c.2.2.2.length c2, .slice Am mk.length cm)).toArray) rfl (fun w' hw' => ex_build 105 _ rfl (by simp only [List.map_toArray, List.map_cons, List.map_nil]; exact entry_built _ _ _ _ _ _ _ _ _ _ _ _)) ?_ (hQ := by exact fun _ _ _ h => add_hQ (by decide) h)
              go_frame
              refine ta 11 ?_
              refine wpOp_wp _ rfl (by kernel_rfl) ?_
              have hch := HF.out.chg
              refine op_mapPut _ _ _ 85 rfl 105 idEnc Tryz.underlying85 rfl (HSR.out.keep (qD _ _)).mapC (by unfold maxLen; omega) i HI.out rfl (.agg (entryV (c, mk) (.slice A1 c.2.1.length c1, .slice A2 c.2.2.2.length c2, .slice Am mk.length cm)).toArray) rfl ?_
              intro wM hmM hgM
              have HGM : Hid (But (fun j => j = q.bc) wr.drew wM) := Lib.hid ((But.refl _ wr.drew).grown hgM fun k e _ => (Option.some.inj e).symm)
              have hein : EntryIn wr.drew (c, mk) (.slice A1 c.2.1.length c1, .slice A2 c.2.2.2.length c2, .slice Am mk.length cm) := ⟨HF.out.ok.1, own_lower (HMID.out.keep (qD _ _)).ids (Nat.zero_le _), own_lower (HMID.out.keep (qD _ _)).ops (Nat.zero_le _), own_lower ((But.of_below (X := NoB) (qD wr.heap.size wr)).own HOM.out fun _ _ q => q) (Nat.zero_le _), HF.out.ok.2.1, HF.out.ops, HKM.out.1⟩
              have hst := (HSR.out.keep (qD wr.heap.size wr)).putEntry HI.out HEI.out hein hmM HGM.out
              clear hmM hgM hein
              refine ⟨fun h => absurd h (by decide), ?_⟩
              go_frame
              refine wpAnyN_done (by kernel_rfl) ?_ _
              obtain ⟨q1, hq1⟩ : ∃ z : StateL, z = { q with em := fun x => if x = i then (Value.slice A1 c.2.1.length c1, Value.slice A2 c.2.2.2.length c2, Value.slice Am mk.length cm) else q.em x } := ⟨_, rfl⟩
              rw [← hq1] at hst
              have HST := Lib.hid hst; have HQ1 := Lib.hid hq1
              have hmap : ∃ x y, wr.drew.heap[q.bc]? = some (.map x y) := (HSR.out.keep (qD wr.heap.size wr)).mapC_obj
              have hnb : ∀ {k : Nat} {cur : Array Value} {t : TypeId} {fr : Nat × Nat}, wr.heap[k]? = some (.cells cur t fr) → wM.heap[k]? = some (.cells cur t fr) := fun {k cur t fr} hc => (HGM.out.block k (qX (show wr.drew.heap[k]? = _ from hc)) (ne_map (show wr.drew.heap[k]? = _ from hc) hmap)).trans hc
              have HADM : Hid (AdderAt wM a s i c (.slice A1 c.2.1.length c1) (.slice A2 c.2.2.2.length c2) (.slice Am mk.length cm)) := Lib.hid ⟨hnb HAD.out.box, HI.out⟩
              have HMDM : Hid (AddMid wM b4 b5 ze w.heap.size i c A1 c1 A2 c2) := Lib.hid ((HMID.out.keep (qD wr.heap.size wr)).but HGM.out fun k hk cur t fr hc => absurd hc (by
                obtain ⟨x, y, h⟩ := hmap
                rw [hk, h]
                intro e
                cases e))
              have HONM : Hid (wM.ownsRow w.heap.size 3 1 (.slice An c.2.2.2.length cn) c.2.2.2.length (intsV ns)) := Lib.hid (HGM.out.own ((But.of_below (X := NoB) (qD wr.heap.size wr)).own HON.out fun _ _ q => q) fun g hg e => by
                obtain ⟨cc, hcc⟩ := own_tagged HON.out hg
                exact ne_map (show wr.drew.heap[g]? = _ from hcc) hmap e)
              have HBWM : Hid (But (StX s S q) w wM) := Lib.hid ((But.of_below (HBR.out.trans ((qD wr.heap.size wr).mono HBR.out.size))).trans HGM.out fun k hk e => .inr (.inr (.inl e)))
              obtain ⟨S1, hS1⟩ : ∃ z : StateD, z = (S.1, S.2.1, S.2.2 ++ [(i, c, mk)]) := ⟨_, rfl⟩
              rw [← hS1] at HST HADF
              have HX1 := Lib.hid (show ∀ j, StX s S1 q1 j ↔ StX s S q j from fun j => by rw [HQ1.out, hS1]; exact Iff.rfl)
              have HND1 : Hid (q1.nd = q.nd) := Lib.hid (by rw [HQ1.out])
              have HIX1 : Hid (DocsIx S1) := Lib.hid (by rw [hS1]; exact HF.out.ix)
              obtain ⟨c0, t0, hle, hc0, ht0⟩ := HF.out.le
              have HLE1 : Hid (StateLe S1 c0 t0) := Lib.hid (by rw [hS1]; exact ⟨hle.claims, hle.size⟩)
              have hnd := HF.out.nd
              have HMKN := Lib.hid (show mk.length ≤ 1073741824 from Nat.le_trans HKM.out.2 HF.out.made)
              have HNSB := Lib.hid (show ∀ n ∈ ns, n ≤ 1099511627776 from fun n hn => by
                have := (fitsAt_ns HFS.out).2 n hn
                have := HMKN.out
                omega)
              clear hst hq1 hmap hnb HGM hS1 hle HEI HH HFU HSR hF0 HAD HOM HMID HON HFS HKM HADC3 hj hlt HQ1 hch
              have c53 : wM.cell? ⟨b5, 3, none⟩ = some (.slice A2 c.2.2.2.length c2) := cells_at0 HMDM.out.chg 3
              go_upto_region 30 with fail
              clear c53
              go_loopw [121] (fun t121 wr => ∃ (j : Nat) (qj : StateL), j ≤ c.2.2.2.length ∧ t121 = .int .i64 (j : Int) ∧ Hid (StateAt wr B s (dosAt i c.1 0 S1 (c.2.2.2.take j) (ns.take j)) qj) ∧ Hid (But (StX s S1 q1) wM wr) ∧ Hid (NewerX wM s S1 (dosAt i c.1 0 S1 (c.2.2.2.take j) (ns.take j)) q1 qj) ∧ qj.nd ≤ q1.nd + j ∧ Hid (AdderAt wr a s i c (.slice A1 c.2.1.length c1) (.slice A2 c.2.2.2.length c2) (.slice Am mk.length cm)) ∧ Hid (AddMid wr b4 b5 ze w.heap.size i c A1 c1 A2 c2) ∧ Hid (wr.ownsRow w.heap.size 3 1 (.slice An c.2.2.2.length cn) c.2.2.2.length (intsV ns)) ∧ Hid (DocsIx (dosAt i c.1 0 S1 (c.2.2.2.take j) (ns.take j))) ∧ Hid (StateLe (dosAt i c.1 0 S1 (c.2.2.2.take j) (ns.take j)) (c0 + j) (t0 + textsN (c.2.2.2.take j)))) (fun t121 _ => c.2.2.2.length - (intOf t121).toNat)
              case atStart => exact ⟨0, q1, Nat.zero_le _, rfl, Lib.hid HST.out, Lib.hid (But.refl _ _), Lib.hid (NewerX.refl _ _ _ _), Nat.le_refl _, HADM, HMDM, HONM, HIX1, HLE1⟩
              case round =>
                obtain ⟨j, qj, hj, rfl, HSJ, HBJ, HNJ, hndj, HADJ, HMJ, HOJ, HIJ, HLJ⟩ := hrel
                by_cases hlt : j < c.2.2.2.length
                · have i0 : (0 : Int) ≤ (j : Int) := by omega
                  have i1 : (j : Int) < (c.2.2.2.length : Int) := by omega
                  have hjn : j < ns.length := by omega
                  obtain ⟨g2, cap2, tail2, hv2, hB2, hg2, _⟩ := own_open HMJ.out.ops (by omega)
                  injection hv2 with eA _ eC
                  subst eA eC
                  obtain ⟨gn, capn, tailn, hvn, hBn, hgn, _⟩ := own_open HOJ.out (by omega)
                  injection hvn with eN _ eM
                  subst eN eM
                  have HXF := Lib.hid (HFO.out _ (List.getElem_mem hlt))
                  have HROW := Lib.hid (show wr.rangeAt g2 (j * 70) (opV c.2.2.2[j]) from fun k u hk => by
                    have hr := rowsV_get (enc := opV) (sz := 70) (fun x hx => opV_length (HF.out.ops x hx)) j hlt k u hk
                    rw [cells_at0 hg2, List.getElem?_append_left (List.getElem?_eq_some_iff.1 hr).1]
                    exact hr)
                  have HTK := Lib.hid (List.take_succ_eq_append_getElem hlt)
                  have HTS := Lib.hid (List.take_succ_eq_append_getElem hjn)
                  have HTT := Lib.hid (textsN_snoc c.2.2.2 hlt)
                  have HTL := Lib.hid (textsN_le c.2.2.2 j)
                  have HGN := Lib.hid hgn
                  have HNB := Lib.hid (HNSB.out _ (List.getElem_mem hjn))
                  have HNI := Lib.hid (show (intsV ns)[j]? = some (.int .i64 (ns[j] : Int)) by unfold intsV; rw [List.getElem?_map, List.getElem?_eq_getElem hjn]; rfl)
                  clear hg2 hgn
                  obtain ⟨x, hx⟩ : ∃ x, c.2.2.2[j] = x := ⟨_, rfl⟩
                  obtain ⟨nj, hnj⟩ : ∃ x, ns[j] = x := ⟨_, rfl⟩
                  rw [hx] at HXF HROW HTK HTT
                  rw [hnj] at HTS HNB HNI
                  clear hx hnj
                  have hol := opV_length HXF.out.fin
                  go_upto_region 32 with (first
                    | (with_reducible refine at_load ?_
                       refine wp_loadN rfl 112 _ rfl g2 _ rfl (opV x) _ HROW.out Tryz.underlying112 rfl (by rw [hol]; kernel_rfl) ?_)
                    | (with_reducible refine at_alloc ?_
                       refine wp_allocM (by rfl) 112 rfl (opV (0, zeroRef, zeroRef, noneS, 0, noneS)) (opZ15 _) ?_
                       intro W14 hb14 hy14 hs14
                       have HB14 := Lib.hid hb14; have HY14 := Lib.hid hy14
                       clear hb14 hy14 hs14)
                    | (with_reducible refine at_store ?_
                       refine wp_storeM (by rfl) 112 _ _ rfl wr.heap.size 0 [] (opV (0, zeroRef, zeroRef, noneS, 0, noneS)) [] (opV x) 112 _ rfl rfl rfl rfl (by simpa using HY14.out) (by rw [hol]; rfl) (by rw [hol]; kernel_rfl) (opV_one _) ?_
                       intro W15 hb15 hy15 hs15
                       have HB15 := Lib.hid (HB14.out.trans (hb15.below (B := wr.heap.size) HB14.out.size (fun k hk e => by have e2 : k = wr.heap.size := e; omega)))
                       have HY15 : Hid (W15.heap[wr.heap.size]? = some (.cells (opV x).toArray 112 (0, 0))) := Lib.hid (by simpa using hy15)
                       clear hb15 hy15 hs15))
                  obtain ⟨b15, hb15⟩ : ∃ z, wr.heap.size = z := ⟨_, rfl⟩
                  rw [hb15] at HY15 ⊢
                  have HBD := Lib.hid (HB15.out.trans ((qD W15.heap.size W15).mono HB15.out.size))
                  have HSD := Lib.hid (HSJ.out.keep HBD.out)
                  have HADD2 := Lib.hid (HADJ.out.keep HBD.out)
                  have HMDD := Lib.hid (HMJ.out.keep HBD.out)
                  have HOD := Lib.hid ((But.of_below (X := NoB) HBD.out).own HOJ.out fun _ _ q => q)
                  have HFU := Lib.hid (show ∀ u : World, Below W15.heap.size W15 u → u.cell? ⟨gn, 0 + j * 1, none⟩ = some (.int .i64 (nj : Int)) ∧ u.rangeAt b15 0 (opV x) from fun u hu => by
                    have h2 := (hu.block gn (qL (qX HGN.out) HB15.out.size)).trans ((HB15.out.block gn (qX HGN.out)).trans HGN.out)
                    refine ⟨(cells_at0 h2 _).trans ?_, fun k v hk => by rw [qZ]; exact (cells_at0 ((hu.block b15 (qX HY15.out)).trans HY15.out) k).trans hk⟩
                    rw [show 0 + j * 1 = j by omega, List.getElem?_append_left (List.getElem?_eq_some_iff.1 HNI.out).1]
                    exact HNI.out)
                  have hED := enE Tryz.func53 rfl
                  have HDOA := Lib.hid (do_any B a s S (dosAt i c.1 0 S1 (c.2.2.2.take j) (ns.take j)) qj i c _ _ _ j nj x W15.drew HSD.out HADD2.out HXF.out HF.out.ok.1 (by omega) HNB.out (by have := HLJ.out.claims; omega) (by have := HND1.out; omega) HIJ.out (fun y hy => by have := HLJ.out.size y hy; have := HTL.out; omega))
                  clear HB14 HY14 hb15 HADJ HMJ HOJ HROW
                  refine rN 7 (fun u => Below W15.heap.size W15 u) (qD _ _) fun hF0 => ?_
                  refine tw 0 (.pointer (some ⟨a, 0, none⟩)) ?_ (hQ := by exact fun _ _ _ h => add_hQ (by decide) h)
                  go_frame
                  refine tw 1 (.int .i64 (j : Int)) ?_ (hQ := by exact fun _ _ _ h => add_hQ (by decide) h)
                  go_frame
                  refine tw 2 (.slice (some ⟨gn, 0, none⟩) c.2.2.2.length cn) ?_ (hQ := by exact fun _ _ _ h => add_hQ (by decide) h)
                  go_frame
                  refine tw 3 (.int .i64 (j : Int)) ?_ (hQ := by exact fun _ _ _ h => add_hQ (by decide) h)
                  go_frame
                  refine tk 4 (.pointer (some ⟨gn, 0 + j * 1, none⟩)) rfl (fun w' hw' => ex_indexG 128 _ _ rfl (b := gn) (off := 0) (q := j) (n := c.2.2.2.length) (c := cn) rfl rfl hlt Tryz.underlying128 sizeInt15) ?_ (hQ := by exact fun _ _ _ h => add_hQ (by decide) h)
                  go_frame
                  refine tl 5 (.int .i64 (nj : Int)) rfl hF0 (fun w' hw' => l1 Tryz.underlying3 (HFU.out w' hw').1) ?_ (hQ := by exact fun _ _ _ h => add_hQ (by decide) h)
                  go_frame
                  refine tl 6 (.agg (opV x).toArray) rfl hF0 (fun w' hw' => ex_load 112 _ rfl (p := ⟨b15, 0, none⟩) rfl (qV w' b15 0 _ (opV x) _ (HFU.out w' hw').2 Tryz.underlying112 rfl (by rw [hol]; kernel_rfl))) ?_ (hQ := by exact fun _ _ _ h => add_hQ (by decide) h)
                  go_frame
                  refine ta 7 ?_
                  refine tc #[.pointer (some ⟨a, 0, none⟩), .int .i64 (j : Int), .int .i64 (nj : Int), .agg (opV x).toArray] hED rfl ?_
                  refine HDOA.out.mono ?_
                  rintro e w17 ⟨rfl, q2, hst2, hbt2, hnw2, hnd2⟩
                  have HST2 := Lib.hid hst2; have HBT2 := Lib.hid hbt2; have HNW2 := Lib.hid hnw2
                  clear hst2 hbt2 hnw2
                  refine ⟨_, rfl, fun h => absurd h (by decide), ?_⟩
                  go_frame
                  refine wpAnyN_done (by kernel_rfl) ?_ _
                  go_wp2_with fail
                  go_roundw
                  case rel =>
                    have hdos : dosAt i c.1 0 S1 (c.2.2.2.take (j + 1)) (ns.take (j + 1)) = doAt (dosAt i c.1 0 S1 (c.2.2.2.take j) (ns.take j)) i c.1 j nj x := by
                      rw [HTK.out, HTS.out, dosAt_snoc i c.1 x nj _ _ 0 S1 (by rw [List.length_take, List.length_take]; omega)]
                      congr 1
                      rw [List.length_take]
                      omega
                    refine ⟨j + 1, q2, by omega, by go_num, Lib.hid ?_, Lib.hid (((HBJ.out.trans (Y := NoB) (But.of_below HBD.out) fun _ _ q => q.elim)).trans HBT2.out fun k hk hx => ?_), Lib.hid ?_, by omega, Lib.hid ⟨HSD.out.keepCells HBT2.out HADD2.out.box (by decide), HI.out⟩, Lib.hid (HMDD.out.but HBT2.out fun k hk cur t fr hc => ?_), Lib.hid (HSD.out.own HBT2.out HOD.out (by decide)), Lib.hid ?_, Lib.hid ?_⟩
                    · rw [hdos]; exact HST2.out
                    · rcases HNJ.out k hx with h | h
                      · exact h
                      · omega
                    · rw [hdos]
                      exact HNJ.out.trans HNW2.out (qT HBJ.out.size HBD.out.size)
                    · cases hm : midTag t with
                      | false => rfl
                      | true => exact absurd hk (HSD.out.notX hc (mid_st hm))
                    · rw [hdos]; exact HIJ.out.do i c.1 j nj x
                    · rw [hdos, HTT.out]
                      have := HLJ.out.do i c.1 j nj x
                      rw [Nat.add_assoc] at this
                      rw [← Nat.add_assoc t0]
                      exact this
                  case measure => (simp [intOf]) <;> omega
                · obtain rfl : j = c.2.2.2.length := by omega
                  rw [List.take_length, show ns.take c.2.2.2.length = ns by rw [← hns, List.take_length]] at HSJ HNJ
                  have he := HMJ.out.err
                  have HER := Lib.hid he
                  clear he
                  go_wp2_with (first
                    | (with_reducible refine at_store ?_
                       refine wp_storeM (by rfl) 29 _ _ rfl ze 0 [] [.int .i64 0] [] [.int .i64 0] 29 (.int .i64 0) rfl rfl rfl rfl (by simpa using HER.out) rfl (by kernel_rfl) (by intro u hu; rw [List.mem_singleton.1 hu]; rfl) ?_
                       intro wE hbE hyE hsE
                       have HBE := Lib.hid hbE
                       have HEE : Hid (wE.heap[ze]? = some (.cells [Value.int .i64 0].toArray 29 (0, 0))) := Lib.hid (by simpa using hyE)
                       clear hbE hyE hsE))
                  refine leaves_cons (f := 50) (args := #[.pointer (some ⟨ze, 0, none⟩)]) (by simp) (by simp [go_sem]) ?_
                  refine (add_idle ⟨ze, 0, none⟩ _).mono ?_
                  rintro e u' w9 ⟨rfl, rfl, rfl⟩
                  refine ⟨_, results_one Tryz.results17 _ _ rfl (load_err16 HEE.out), ?_⟩
                  rw [HADF.out]
                  have hbwj : But (StX s S q) w wr := HBWM.out.trans HBJ.out fun k hk hx => (HX1.out k).1 hx
                  have hsE : StateAt _ B s _ qj := HSJ.out.keepE HBE.out (HER.out)
                  refine ⟨rfl, qj, hsE, hbwj.trans HBE.out fun k hk e => absurd hk (by have := HL.out; have e2 : k = ze := e; omega), fun k hk => ?_, ?_⟩
                  · rcases HNJ.out k hk with g | g
                    · exact .inl ((HX1.out k).1 g)
                    · exact .inr (qT HBWM.out.size g)
                  · rw [HND1.out] at hndj
                    exact hndj
end Go.Proofs.YtdgbjhfkmembdaaGreatDoor
