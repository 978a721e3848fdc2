/-
  Evaluation of closed runs, part I3: functions without a body. No conditions; no program.
  Evaluation of closed runs, part I4: what a strings.Builder does. No conditions; no program.
-/
import Derived.Test.YtmlhijlcefogmaaGreatDoorEvI2
import Derived.Laws.Externs
import Derived.Lib.BytesEntry
import Derived.Lib.Builder
import Derived.Lib.UnsafeStr
set_option linter.unusedVariables false
set_option linter.unusedSimpArgs false
namespace Go.Proofs.YtmlhijlcefogmaaGreatDoor
namespace Ev

noncomputable section
/-- The bytes of a slice of bytes. -/
def sBytes (H : T O) (v : V) : Option (List Nat) :=
  match v with
  | .s b o len _ z _ => match Nat.beq z 1, H.at b with
    | true, some (.row cs _ _ _ _) => match getN cs o len with | some vs => unB vs | none => none
    | _, _ => none
  | .e => some []
  | .g (.slice none 0 _) => some []
  | _ => none
/-- Is the value of an interface of this type? -/
def eAssert (P : Program) (asserted : TypeId) (ok : Bool) (v : V) : Option V :=
  match v, P.underlying asserted with
  | .it _ _, some (.interface _) => none
  | .it t u, some _ => match Nat.beq t asserted with
    | true => some (match ok with | true => .t [u, .b true] | false => u)
    | false => match ok, (P.info? asserted).bind (·.zero) with
      | true, some z => some (.t [ofVal z, .b false])
      | _, _ => none
  | _, _ => none
def isExt (fn : Func) (name : String) : Bool := fn.body.isNone && (fn.name == name) && (fn.origin == "")
def eExt (P : Program) (H : T O) (v : V) (args : List V) : Option V :=
  match v with
  | .f (.func f) [] => match P.funcs[f]? with
    | some fn => match isExt fn "internal/bytealg.Compare" with
      | true => match args with
        | [a, b] => match sBytes H a, sBytes H b with
          | some x, some y => fI (Extern.BytealgCompare.cmp (bytesOf x) (bytesOf y)) fun n => some (.i .i64 n)
          | _, _ => none
        | _ => none
      | false => match isExt fn "internal/abi.NoEscape", args with
        | true, [a] => some a
        | _, _ => none
    | none => none
  | _ => none
end
section
variable {P : Program} {G : Nat} {S : Nat → Prop} {μ : Nat → Loc} {w : World} {n : Nat}
theorem sBytes_ok {H : T O} {v : V} {l : List Nat} {x : Value} (he : sBytes H v = some l) (r : RH G S μ H.at w) (hv : VR S μ v x) : (Extern.Bytes.bytesOf x).run P w = .ok (bytesOf l) w := by
  unfold sBytes at he
  split at he
  · rename_i b o len cap z op
    split at he
    · rename_i cs rl el fz ro hz hb
      split at he
      · rename_i vs hvs
        cases hv
        obtain ⟨xs, h1, h2, h3, _⟩ := RH.range r hb hvs
        obtain ⟨e1, e2⟩ := unB_ok he h2
        subst e1
        have hl : l.length = len := by simpa using h1
        have := Lib.run_loadBytesX (P := P) (w := w) (l.map Int.ofNat) ⟨(μ b).blk, (μ b).sh + o, none⟩ .empty (fun j x hj => by
          rw [List.getElem?_map, Option.map_eq_some_iff] at hj
          obtain ⟨y, hy, rfl⟩ := hj
          rw [Addr.add_none]
          exact h3 j (.int .u8 (Int.ofNat y)) (by rw [List.getElem?_map, hy]; rfl))
        rw [List.length_map, hl] at this
        simp only [Extern.Bytes.bytesOf]
        rw [this]
        have e3 : Lib.bytesOf (l.map Int.ofNat) = l.map UInt8.ofNat := by
          unfold Lib.bytesOf
          rw [List.map_map]
          rfl
        rw [e3]
        simp [bytesOf]
      · cases he
    · cases he
  · injection he with he
    subst he
    cases hv with
    | e A c => cases A <;> simp [Extern.Bytes.bytesOf, Extern.Bytes.loadBytes] <;> rfl
  · injection he with he
    subst he
    cases hv
    simp [Extern.Bytes.bytesOf]
    rfl
  · cases he
theorem eAssert_ok {xt asserted : TypeId} {ok : Bool} {v u : V} {x : Value} (he : eAssert P asserted ok v = some u) (hv : VR S μ v x) : ∃ y, (Instr.typeAssert x xt asserted ok).run P w = .ok y w ∧ VR S μ u y := by
  unfold eAssert at he
  split at he
  · cases he
  · rename_i t v d hni hu
    cases hv with
    | it _ _ y hy =>
      split at he
      · rename_i hb
        have := Nat.eq_of_beq_eq_true hb
        subst this
        injection he with he
        subst he
        cases ok with
        | true =>
          refine ⟨.tuple #[y, .bool true], ?_, .t _ _ (.cons hy (.cons (.b _) .nil))⟩
          simp [Instr.typeAssert, run_underlying hu]
        | false =>
          refine ⟨y, ?_, hy⟩
          simp [Instr.typeAssert, run_underlying hu]
      · rename_i hb
        have hne : ¬ t = asserted := fun e => by rw [e, Nat.beq_refl] at hb; cases hb
        split at he
        · rename_i z hz
          injection he with he
          subst he
          rw [Option.bind_eq_some_iff] at hz
          obtain ⟨i, hi, hz⟩ := hz
          refine ⟨.tuple #[z, .bool false], ?_, .t _ _ (.cons (.ofVal z) (.cons (.b _) .nil))⟩
          simp [Instr.typeAssert, run_underlying hu]
          cases d <;> first | exact absurd hu (hni _ _ rfl) | simp [hne, zeroValue, typeInfo, hi, hz]
        · cases he
  · cases he
theorem find_compare {fn : Func} (hn : fn.name = "internal/bytealg.Compare") (ho : fn.origin = "") : Extern.findNext fn = none ∧ Extern.find fn = some Extern.BytealgCompare.compare := by
  unfold Extern.findNext Extern.find
  simp only [hn, ho]
  constructor <;> kernel_rfl
theorem find_noEscape {fn : Func} (hn : fn.name = "internal/abi.NoEscape") (ho : fn.origin = "") : Extern.findNext fn = none ∧ Extern.find fn = some Extern.AbiNoEscape.same := by
  unfold Extern.findNext Extern.find
  simp only [hn, ho]
  constructor <;> kernel_rfl
theorem eExt_ok {h : Nat → Option O} {H : T O} {v u : V} {args : List V} {x : Value} {xs : Array Value} (he : eExt P H v args = some u) (r : RH G S μ H.at w) (hv : VR S μ v x) (ha : VRs S μ args xs.toList) :
    OpOk P G S μ h ((do let d ← Deferred.ofValue x xs; invoke d.target d.args).run P w) w n (.lt u) := by
  unfold eExt at he
  split at he
  · rename_i f
    split at he
    · rename_i fn hf
      split at he
      · rename_i hx
        simp only [isExt, Bool.and_eq_true, beq_iff_eq] at hx
        split at he
        · rename_i a b
          split at he
          · rename_i x y hx1 hx2
            rw [fI_eq] at he
            injection he with he
            subst he
            obtain ⟨x0, y0, rfl⟩ : ∃ x0 y0, xs = #[x0, y0] := by
              obtain ⟨l⟩ := xs
              simp only at ha
              cases ha with
              | cons h1 h2 => cases h2 with | cons h2 h3 => cases h3; exact ⟨_, _, rfl⟩
            have h1 : VR S μ a x0 := by cases ha with | cons h1 h2 => exact h1
            have h2 : VR S μ b y0 := by cases ha with | cons h1 h2 => cases h2 with | cons h2 h3 => exact h2
            cases hv with
            | f _ _ cs hcs =>
              cases hcs
              refine ⟨.int .i64 (Extern.BytealgCompare.cmp (bytesOf x) (bytesOf y)), ?_, .i _ _⟩
              have hfind := find_compare hx.1.2 hx.2
              have hcall := run_callFunc_extern (P := P) (f := f) hf (by rw [hx.1.2]; decide) hx.1.1 hfind.1 hfind.2 #[x0, y0] w
              simp only [Deferred.ofValue, invoke, Sem.run_bind, Sem.run_pure, Result.andThen_ok, Array.append_empty]
              have e1 := sBytes_ok (P := P) hx1 r h1
              have e2 := sBytes_ok (P := P) hx2 r h2
              have hcmp : (Extern.BytealgCompare.compare #[x0, y0]).run P w = .ok (.int .i64 (Extern.BytealgCompare.cmp (bytesOf x) (bytesOf y))) w := by
                change Sem.run P (do pure (goInt (Extern.BytealgCompare.cmp (← Extern.Bytes.bytesOf x0) (← Extern.Bytes.bytesOf y0)))) w = _
                simp only [Sem.run_bind, Sem.run_pure, e1, e2, Result.andThen_ok]
                rfl
              rw [hcmp] at hcall
              exact hcall
          · cases he
        · cases he
      · split at he
        · rename_i a hx
          simp only [isExt, Bool.and_eq_true, beq_iff_eq] at hx
          injection he with he
          subst he
          obtain ⟨x0, rfl⟩ : ∃ x0, xs = #[x0] := by
            obtain ⟨l⟩ := xs
            simp only at ha
            cases ha with
            | cons h1 h2 => cases h2; exact ⟨_, rfl⟩
          have h1 : VR S μ a x0 := by cases ha with | cons h1 h2 => exact h1
          cases hv with
          | f _ _ cs hcs =>
            cases hcs
            refine ⟨x0, ?_, h1⟩
            have hfind := find_noEscape hx.1.2 hx.2
            have hcall := run_callFunc_extern (P := P) (f := f) hf (by rw [hx.1.2]; decide) hx.1.1 hfind.1 hfind.2 #[x0] w
            simp only [Deferred.ofValue, invoke, Sem.run_bind, Sem.run_pure, Result.andThen_ok, Array.append_empty]
            exact hcall
        · cases he
    · cases he
  · cases he
end
end Ev
end Go.Proofs.YtmlhijlcefogmaaGreatDoor
namespace Go.Proofs.YtmlhijlcefogmaaGreatDoor
namespace Ev

noncomputable section
def infoSz (P : Program) (t : TypeId) : Option Nat := (P.info? t).map (·.size)
/-- A pointer to a raw one, and back. -/
def eUns (P : Program) (H : T O) (src dst : TypeId) (b o : Nat) : Option V :=
  match P.underlying src, P.underlying dst, H.at b with
  | some (.pointer t), some .unsafePointer, some (.row _ len _ _ _) => match infoSz P t with
    | some z => match Nat.blt 0 z && Nat.blt o len with | true => some (.p b o) | false => none
    | none => none
  | some .unsafePointer, some (.pointer u), some (.row _ len el fz _) => match (P.info? u).isSome && fz.ex && liesAt P P.depth el (len / P.cellsOf el) o u 1 with
    | true => some (.p b o)
    | false => none
  | _, _, _ => none
def eUStr (P : Program) (H : T O) (n : Nat) (pt : TypeId) (b o m : Nat) : Option Nx :=
  match P.underlying pt, H.at b with
  | some (.pointer e), some (.row cs len el fz ro) => match Nat.beq el e && Nat.beq (P.cellsOf e) 1 && Nat.blt 0 m && Nat.ble m (2 ^ 47) && !ro && !fz.st, getN cs o m with
    | true, some vs => match unB vs with
      | some l => fN (Nat.max fz.n (o + m)) fun k => H.putK b (some (.row cs len el ⟨k, false, fz.ex⟩ false)) fun H => some (.val (.str l) H n)
      | none => none
    | _, _ => none
  | _, _ => none
end
section
variable {P : Program} {G : Nat} {S : Nat → Prop} {μ : Nat → Loc} {w : World} {n : Nat}
theorem eUns_ok {H : T O} {src dst : TypeId} {b o : Nat} {u : V} {y : Value} (he : eUns P H src dst b o = some u) (r : RH G S μ H.at w) (hv : VR S μ (.p b o) y) : (convert src dst y).run P w = .ok y w ∧ VR S μ u y := by
  unfold eUns at he
  split at he
  · rename_i t cs len el fz ro hs hd hb
    split at he
    · rename_i z hz
      split at he
      · rename_i hc
        simp only [Bool.and_eq_true] at hc
        injection he with he
        subst he
        refine ⟨?_, hv⟩
        obtain ⟨hS, c, fr, hx, g1, g2, _, _⟩ := r.row hb
        simp only [infoSz, Option.map_eq_some_iff] at hz
        obtain ⟨j, hj, hz⟩ := hz
        have h1 := blt_lt hc.1
        have h2 := blt_lt hc.2
        cases hv
        exact Lib.run_to_unsafe w (e := el) (cells := c.size) _ hs hd hj (by omega) (by simp [World.shape?, hx]) (by simp only; omega)
      · cases he
    · cases he
  · rename_i t cs len el fz ro hs hd hb
    split at he
    · rename_i hc
      simp only [Bool.and_eq_true] at hc
      injection he with he
      subst he
      refine ⟨?_, hv⟩
      obtain ⟨hS, c, fr, hx, g1, g2, g3, _⟩ := r.row hb
      obtain ⟨e1, e2⟩ := g3.1 hc.1.2
      obtain ⟨j, hj⟩ := Option.isSome_iff_exists.1 hc.1.1
      cases hv
      refine Lib.run_from_unsafe w (e := el) (cells := c.size) _ hs hd hj (by simp [World.shape?, hx]) ?_
      rw [g1, e2, e1, Nat.zero_add]
      exact hc.2
    · cases he
  · cases he
theorem liesAt_at {e : TypeId} (hc : P.cellsOf e = 1) (count off n : Nat) (hn : off + n ≤ count) : liesAt P P.depth e count off e n = true := by
  have hd : P.depth = (2 * (P.types.size + Made.depth) + 1) + 1 := rfl
  rw [hd]
  simp only [liesAt, Bool.or_eq_true]
  left
  rw [hd]
  simp [rowAt, hc, hn, sameLayout, Nat.mod_one]
theorem eUStr_ok {H : T O} {pt it ty : TypeId} {b o m : Nat} {r : Nx} {y : Value} (he : eUStr P H n pt b o m = some r) (hr : RH G S μ H.at w) (hv : VR S μ (.p b o) y) :
    OpOk P G S μ H.at (((Builtin.unsafeString_ #[pt, it] ty #[y, .int .i64 (.ofNat m)]).run P w).andThen fun v w => .ok (.value v) w) w n r := by
  unfold eUStr at he
  split at he
  · rename_i e cs len el fz ro hp hb
    split at he
    · rename_i vs hc hvs
      simp only [Bool.and_eq_true, Bool.not_eq_true'] at hc
      obtain ⟨⟨⟨⟨⟨c1, c2⟩, c3⟩, c4⟩, c5⟩, c6⟩ := hc
      have c1 := Nat.eq_of_beq_eq_true c1
      have c2 := Nat.eq_of_beq_eq_true c2
      have c3 := blt_lt c3
      have c4 := Nat.le_of_ble_eq_true c4
      subst c1
      split at he
      · rename_i l hl
        rw [fN_eq, T.putK_eq] at he
        injection he with he
        subst he
        obtain ⟨hS, c, fr, hx, g1, g2, g3, g4⟩ := hr.row hb
        obtain ⟨xs, h1, h2, h3, _⟩ := RH.range hr hb hvs
        obtain ⟨e1, e2⟩ := unB_ok hl h2
        subst e1
        have hlm : l.length = m := by simpa using h1
        have hom : o + m ≤ len := by
          obtain ⟨k1, k2⟩ := getN_spec cs m o vs hvs
          have : o + (m - 1) < len := (g4 _ _ (k2 (m - 1) vs[m - 1] (by simp))).1
          omega
        have hload := Lib.run_loadBytes (P := P) w (l.map UInt8.ofNat) ⟨(μ b).blk, (μ b).sh + o, none⟩ .empty (fun j x hj => by
          rw [List.getElem?_map, Option.map_eq_some_iff] at hj
          obtain ⟨y, hy, rfl⟩ := hj
          rw [Addr.add_none]
          have hlt := e2 y (List.mem_of_getElem? hy)
          rw [h3 j (.int .u8 (Int.ofNat y)) (by rw [List.getElem?_map, hy]; rfl)]
          congr 2
          rw [UInt8.toNat_ofNat']
          show ((y : Nat) : Int) = _
          omega)
        rw [List.length_map, hlm] at hload
        cases hv
        obtain ⟨s1, s2, s3, hdef⟩ : ∃ s1 s2 s3 : String, Builtin.unsafeString_ #[pt, it] ty #[.pointer (some ⟨(μ b).blk, (μ b).sh + o, none⟩), .int .i64 (.ofNat m)] =
            (do
              let n ← asInt (.int .i64 (.ofNat m))
              if n < 0 then runtimePanic (.error s1)
              if n > IntKind.i64.max then unsupported (.unsafePointer s2)
              if n = 0 then pure (.string .empty)
              else if ← variablesAt ⟨(μ b).blk, (μ b).sh + o, none⟩ (← elemOf pt) n.toNat then do
                let s ← loadBytes ⟨(μ b).blk, (μ b).sh + o, none⟩ .empty n.toNat
                freeze ⟨(μ b).blk, (μ b).sh + o, none⟩ n.toNat
                pure (.string s)
              else unsupported (.unsafePointer s3)) := ⟨_, _, _, rfl⟩
        have hmax : IntKind.i64.max = 9223372036854775807 := rfl
        have hsh : w.shape? (μ b).blk = some (el, c.size) := by simp [World.shape?, hx]
        have hlies := liesAt_at (P := P) c2 (c.size / P.cellsOf el) ((μ b).sh + o) m (by rw [c2, Nat.div_one]; omega)
        have hrun : (Builtin.unsafeString_ #[pt, it] ty #[.pointer (some ⟨(μ b).blk, (μ b).sh + o, none⟩), .int .i64 (.ofNat m)]).run P w = .ok (.string (bytesOf l)) (w.freeze ⟨(μ b).blk, (μ b).sh + o, none⟩ m) := by
          rw [hdef]
          have m1 : ¬ (9223372036854775807 : Int) < (m : Int) := by omega
          have m2 : ¬ (m : Int) < 0 := by omega
          have m3 : ¬ m = 0 := by omega
          simp [asInt, asIntOf, hmax, m1, m2, m3, variablesAt, hsh, elemOf, run_underlying hp, hlies, hload]
          rfl
        obtain ⟨f, hfz, hfx⟩ : ∃ f : Obj → Obj, (w.freeze ⟨(μ b).blk, (μ b).sh + o, none⟩ m).heap = w.heap.modify (μ b).blk f ∧ ∀ c e lo hi, f (.cells c e (lo, hi)) = .cells c e (if lo == hi then ((μ b).sh + o, (μ b).sh + o + m) else (min lo ((μ b).sh + o), max hi ((μ b).sh + o + m))) := by
          unfold World.freeze
          rw [if_neg (by omega)]
          exact ⟨fun | .cells c elem (lo, hi) => .cells c elem (if lo == hi then ((μ b).sh + o, (μ b).sh + o + m) else (min lo ((μ b).sh + o), max hi ((μ b).sh + o + m))) | o => o, rfl, fun _ _ _ _ => rfl⟩
        obtain ⟨lo, hi⟩ := fr
        obtain ⟨f1, f2, f3⟩ := g3
        have f2 := f2 c6
        simp only at f2
        have hup := hr.upd (n := n) hb (by rw [O.ro]; exact c5) (w' := w.freeze ⟨(μ b).blk, (μ b).sh + o, none⟩ m) (.cells c el (if lo == hi then ((μ b).sh + o, (μ b).sh + o + m) else (min lo ((μ b).sh + o), max hi ((μ b).sh + o + m)))) (.row cs len el ⟨Nat.max fz.n (o + m), false, fz.ex⟩ false)
          ⟨c, _, rfl, g1, g2, ⟨f1, fun _ => ?_, fun o' h1 h2 => ?_⟩, g4⟩ (by unfold World.freeze; split <;> rfl) (by unfold World.freeze; split <;> rfl) (by unfold World.freeze; split <;> rfl) (by rw [hfz]; simp) (by rw [hfz, Array.getElem?_modify, if_pos rfl, hx, Option.map_some, hfx])
          (fun k hk hne => by rw [hfz, Array.getElem?_modify, if_neg (Ne.symm hne)])
        · rw [← at_put1] at hup
          refine ⟨.string (bytesOf l), _, S, μ, .inl ?_, .str l e2, hup.1, hup.2⟩
          rw [hrun]
          rfl
        · show _ ≤ (μ b).sh + max fz.n (o + m)
          split <;> simp only <;> omega
        · change (μ b).sh + max fz.n (o + m) ≤ o' at h1
          split <;> simp only <;> omega
      · cases he
    · cases he
  · cases he
end
end Ev
end Go.Proofs.YtmlhijlcefogmaaGreatDoor
