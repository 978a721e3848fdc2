/-
  Evaluation of closed runs, part F: operations that leave the world as it stands: addresses, slices, parts. No conditions; no program.
-/
import Derived.Test.YtmlhijlcefogmaaGreatDoorEvE
set_option linter.unusedVariables false
set_option linter.unusedSimpArgs false
namespace Go.Proofs.YtmlhijlcefogmaaGreatDoor
namespace Ev

noncomputable section
def eField (P : Program) (t : TypeId) (v : V) (f : Nat) : Option V :=
  match P.underlying t with
  | some (.struct fields) => match fields[f]? with
    | some fd => match v, rowT P fd.type with
      | .a cs, some true => (match szOf P fd.type with | some z => (match Nat.ble (fd.offset + z) cs.length with | true => some (.a ((cs.drop fd.offset).take z)) | false => none) | none => none)
      | .a cs, some false => cs[fd.offset]?
      | _, _ => none
    | none => none
  | _ => none
def eFieldAddr (P : Program) (t : TypeId) (v : V) (f : Nat) : Option V :=
  match P.underlying t with
  | some (.struct fields) => match fields[f]? with
    | some fd => match v, szOf P fd.type with
      | .p b o, some (z + 1) => fN (o + fd.offset) fun o => some (.p b o)
      | _, _ => none
    | none => none
  | _ => none
def eIndexAddr (P : Program) (t : TypeId) (v ix : V) : Option V :=
  match P.underlying t, v, ix with
  | some (.array n e), .p b o, .i _ (.ofNat i) => match Nat.blt i n, szOf P e with | true, some z => fN (o + i * z) fun o => some (.p b o) | _, _ => none
  | some (.slice e), .s b o len _ _ _, .i _ (.ofNat i) => match Nat.blt i len, szOf P e with | true, some z => fN (o + i * z) fun o => some (.p b o) | _, _ => none
  | _, _, _ => none
def eIndex (P : Program) (t : TypeId) (v ix : V) : Option V :=
  match P.underlying t, v, ix with
  | some (.array n e), .a cs, .i _ (.ofNat i) => match Nat.blt i n, szOf P e, rowT P e with
    | true, some z, some true => match Nat.ble (i * z + z) cs.length with | true => some (.a ((cs.drop (i * z)).take z)) | false => none
    | true, some z, some false => cs[i * z]?
    | _, _, _ => none
  | _, _, _ => none
def bnd (v : Option V) (dflt y : Nat) : Option Nat :=
  match v with
  | none => some dflt
  | some (.i _ (.ofNat k)) => match Nat.ble k y with | true => some k | false => none
  | _ => none
def cutS (b o z h l m : Nat) (op : Bool) : Option V := fN (match Nat.beq m l with | true => o | false => o + l * z) fun o => fN (h - l) fun len => fN (m - l) fun cap => some (.s b o len cap z op)
def eSlice (P : Program) (H : T O) (t : TypeId) (v : V) (lo hi mx : Option V) : Option V :=
  match P.underlying t, v with
  | some (.slice e), .s b o len cap z op => match szOf P e with
    | some z' => match Nat.beq z' z, mx with
      | true, none => match bnd hi len cap with
        | some h => match bnd lo 0 h with
          | some l => match op && Nat.beq cap l with | true => (match Nat.beq h l with | true => some .e | false => none) | false => cutS b o z h l cap op
          | none => none
        | none => none
      | true, some m => match bnd (some m) cap cap, hi with
        | some m, some hv => match bnd (some hv) 0 m with
          | some h => match bnd lo 0 h with | some l => cutS b o z h l m false | none => none
          | none => none
        | _, _ => none
      | false, _ => none
    | none => none
  | some (.array n e), .p b o => match H.at b, szOf P e, mx with
    | some (.row _ len _ _ _), some z, none => match Nat.ble (o + n * z) len, bnd hi n n with
      | true, some h => match bnd lo 0 h with | some l => cutS b o z h l n false | none => none
      | _, _ => none
    | _, _, _ => none
  | _, _ => none
end

theorem blt_lt {a b : Nat} (h : Nat.blt a b = true) : a < b := Nat.le_of_ble_eq_true h
section
variable {P : Program} {G : Nat} {S : Nat → Prop} {μ : Nat → Loc} {w : World} {n : Nat}
theorem szOf_run {t : TypeId} {z : Nat} (h : szOf P t = some z) (w : World) : (sizeOf t).run P w = .ok z w := by
  simp only [szOf, Option.map_eq_some_iff] at h
  obtain ⟨i, h1, h2⟩ := h
  simp [sizeOf, typeInfo, h1, h2]
theorem rowT_run {t : TypeId} {b : Bool} (h : rowT P t = some b) (w : World) : (isAgg t).run P w = .ok b w := by
  simp only [rowT, Option.map_eq_some_iff] at h
  obtain ⟨d, h1, h2⟩ := h
  unfold isAgg
  rw [Sem.run_bind, run_underlying h1 w, ← h2]
  cases d <;> simp
theorem part_row {t : TypeId} {cs : List V} {xs : List Value} (hx : VRs S μ cs xs) {o z : Nat} (hr : rowT P t = some true) (hz : szOf P t = some z) (w : World) : ∃ y, (part t xs.toArray o).run P w = .ok y w ∧ VR S μ (.a ((cs.drop o).take z)) y := by
  refine ⟨.agg ((xs.drop o).take z).toArray, ?_, .a _ _ ((hx.drop o).take z)⟩
  simp [part, rowT_run hr w, szOf_run hz w, List.extract_eq_take_drop]
theorem part_atom {t : TypeId} {cs : List V} {xs : List Value} (hx : VRs S μ cs xs) {o : Nat} {v : V} (hr : rowT P t = some false) (hv : cs[o]? = some v) (w : World) : ∃ y, (part t xs.toArray o).run P w = .ok y w ∧ VR S μ v y := by
  obtain ⟨y, h1, h2⟩ := hx.at _ _ hv
  refine ⟨y, ?_, h2⟩
  simp [part, rowT_run hr w, h1]
theorem eField_ok {t : TypeId} {v u : V} {f : Nat} {x : Value} (he : eField P t v f = some u) (hv : VR S μ v x) : ∃ y, (Instr.field t x f).run P w = .ok y w ∧ VR S μ u y := by
  unfold eField at he
  split at he
  · rename_i fields hu
    split at he
    · rename_i fd hf
      split at he
      · rename_i cs hr
        split at he
        · rename_i z hz
          split at he
          · injection he with he
            subst he
            cases hv with
            | a _ xs hx =>
              obtain ⟨y, h1, h2⟩ := part_row hx (o := fd.offset) hr hz w
              exact ⟨y, by simp [Instr.field, run_underlying hu, hf, asAgg, h1], h2⟩
          · cases he
        · cases he
      · rename_i cs hr
        cases hv with
        | a _ xs hx =>
          obtain ⟨y, h1, h2⟩ := part_atom hx hr he w
          exact ⟨y, by simp [Instr.field, run_underlying hu, hf, asAgg, h1], h2⟩
      · cases he
    · cases he
  · cases he
theorem eFieldAddr_ok {t : TypeId} {v u : V} {f : Nat} {x : Value} (he : eFieldAddr P t v f = some u) (hv : VR S μ v x) : ∃ y, (Instr.fieldAt t x f).run P w = .ok y w ∧ VR S μ u y := by
  unfold eFieldAddr at he
  split at he
  · rename_i fields hu
    split at he
    · rename_i fd hf
      split at he
      · rename_i b o z hz
        rw [fN_eq] at he
        injection he with he
        subst he
        cases hv with
        | p _ _ hS =>
          refine ⟨_, ?_, .p b (o + fd.offset) hS⟩
          simp [Instr.fieldAt, run_underlying hu, hf, Instr.sureAddr, fieldPlace, szOf_run hz w, Addr.add_none, Nat.add_assoc]
      · cases he
    · cases he
  · cases he
theorem eIndexAddr_ok {t : TypeId} {v ix u : V} {x y : Value} (he : eIndexAddr P t v ix = some u) (hv : VR S μ v x) (hi : VR S μ ix y) : ∃ a, (Instr.indexAt t x y).run P w = .ok a w ∧ VR S μ u a := by
  unfold eIndexAddr at he
  split at he
  · rename_i k e b o kd i hu
    obtain rfl := vr_int hi
    split at he
    · rename_i z hb hz
      rw [fN_eq] at he
      injection he with he
      subst he
      have hlt : i < k := blt_lt hb
      cases hv with
      | p _ _ hS =>
        refine ⟨_, ?_, .p b (o + i * z) hS⟩
        simp [Instr.indexAt, asIntOf, run_underlying hu, Instr.sureAddr, szOf_run hz w, Addr.add_none, Nat.add_assoc, hlt]
    · cases he
  · rename_i e b o len cap z' op kd i hu
    obtain rfl := vr_int hi
    split at he
    · rename_i z hb hz
      rw [fN_eq] at he
      injection he with he
      subst he
      have hlt : i < len := blt_lt hb
      cases hv with
      | s _ _ _ _ _ _ cap' hS =>
        refine ⟨_, ?_, .p b (o + i * z) hS⟩
        simp [Instr.indexAt, asIntOf, run_underlying hu, Instr.sureAddr, szOf_run hz w, Addr.add_none, Nat.add_assoc, hlt]
    · cases he
  · cases he
theorem eIndex_ok {t : TypeId} {v ix u : V} {x y : Value} (he : eIndex P t v ix = some u) (hv : VR S μ v x) (hi : VR S μ ix y) : ∃ a, (Instr.index t x y).run P w = .ok a w ∧ VR S μ u a := by
  unfold eIndex at he
  split at he
  · rename_i k e cs kd i hu
    obtain rfl := vr_int hi
    cases hv with
    | a _ xs hx =>
      split at he
      · rename_i z hb hz hr
        have hlt : i < k := blt_lt hb
        split at he
        · injection he with he
          subst he
          obtain ⟨y, h1, h2⟩ := part_row hx (o := i * z) hr hz w
          exact ⟨y, by simp [Instr.index, asIntOf, run_underlying hu, hlt, szOf_run hz w, h1], h2⟩
        · cases he
      · rename_i z hb hz hr
        have hlt : i < k := blt_lt hb
        obtain ⟨y, h1, h2⟩ := part_atom hx hr he w
        exact ⟨y, by simp [Instr.index, asIntOf, run_underlying hu, hlt, szOf_run hz w, h1], h2⟩
      · cases he
  · cases he
theorem bnd_ok {v : V} {x : Value} {d y k y' : Nat} (h : bnd (some v) d y = some k) (hv : VR S μ v x) (hy : y ≤ y') (code : BoundsCode) (w : World) : k ≤ y ∧ (Instr.sliceBound x y' code).run P w = .ok k w := by
  unfold bnd at h
  split at h
  · contradiction
  · rename_i kd m he
    injection he with he
    subst he
    obtain rfl := vr_int hv
    split at h
    · rename_i hb
      injection h with h
      subst h
      have hle : m ≤ y := by simpa using hb
      refine ⟨hle, ?_⟩
      have := run_sliceBound (P := P) w kd (m : Int) y' code (by omega) (by omega)
      simpa using this
    · cases h
  · cases h
theorem bnd_none {d y k : Nat} (h : bnd none d y = some k) : k = d := by injection h with h; exact h.symm
theorem cutS_ok {b o z h l m : Nat} {op : Bool} {u : V} (he : cutS b o z h l m op = some u) (hS : S b) (m' : Nat) (h1 : l ≤ h) (h2 : h ≤ m) (h3 : m ≤ m') (h4 : op = false → m' = m) (h5 : (op && Nat.beq m l) = false) (h6 : (μ b).sh + o + m' * z ≤ (μ b).sz) :
    VR S μ u (.slice (some (if m' = l then ⟨(μ b).blk, (μ b).sh + o, none⟩ else (⟨(μ b).blk, (μ b).sh + o, none⟩ : Addr).add (l * z))) (h - l) (m' - l)) := by
  unfold cutS at he
  rw [fN_eq, fN_eq, fN_eq] at he
  injection he with he
  subst he
  by_cases e : m' = l
  · have em : m = l := by omega
    have eb : Nat.beq m l = true := by rw [em]; exact Nat.beq_refl l
    rw [if_pos e]
    simp only [eb]
    refine VR.s b o (h - l) (m - l) z op (m' - l) hS (by omega) (by omega) (fun e' => by rw [h4 e']) ?_
    have : m' - l = 0 := by omega
    rw [this]
    omega
  · have eb : Nat.beq m l = false := by
      cases hb : Nat.beq m l with
      | false => rfl
      | true =>
        have := Nat.eq_of_beq_eq_true hb
        cases op with
        | false => exact absurd (h4 rfl) (by omega)
        | true => rw [hb] at h5; simp at h5
    rw [if_neg e, Addr.add_none]
    simp only [eb]
    have hm : m' * z = l * z + (m' - l) * z := by rw [← Nat.add_mul]; congr 1; omega
    have := VR.s (S := S) (μ := μ) b (o + l * z) (h - l) (m - l) z op (m' - l) hS (by omega) (by omega) (fun e' => by rw [h4 e']) (by omega)
    rwa [← Nat.add_assoc] at this
/-- An operand that may be left out. -/
def OV (S : Nat → Prop) (μ : Nat → Loc) : Option V → Option Value → Prop
  | none, none => True
  | some v, some x => VR S μ v x
  | _, _ => False
theorem lo_ok {lo : Option V} {x : Option Value} {y k : Nat} (h : bnd lo 0 y = some k) (hv : OV S μ lo x) (code : BoundsCode) (w : World) :
    k ≤ y ∧ (match x with | some v => Instr.sliceBound v y code | none => pure 0).run P w = .ok k w := by
  cases lo <;> cases x <;> try exact hv.elim
  · have := bnd_none h
    subst this
    exact ⟨Nat.zero_le _, rfl⟩
  · exact bnd_ok h hv (Nat.le_refl _) code w
theorem eSlice_ok {H : T O} {t : TypeId} {v u : V} {x : Value} {lo hi mx : Option V} {xl xh xm : Option Value} (he : eSlice P H t v lo hi mx = some u) (r : RH G S μ H.at w) (hv : VR S μ v x) (hlo : OV S μ lo xl) (hhi : OV S μ hi xh) (hmx : OV S μ mx xm) :
    ∃ y, (Instr.sliceAt t x xl xh xm).run P w = .ok y w ∧ VR S μ u y := by
  unfold eSlice at he
  split at he
  · rename_i e b o len cap z op hu
    cases hv with
    | s _ _ _ _ _ _ cap' hS hl hc hop hs =>
      split at he
      · rename_i z' hz
        split at he
        · -- no third bound
          rename_i hb
          have hzz := Nat.eq_of_beq_eq_true hb
          subst hzz
          have hxm : xm = none := by cases xm with | none => rfl | some _ => exact hmx.elim
          subst hxm
          split at he
          · rename_i h hh
            split at he
            · rename_i l hlk
              obtain ⟨l1, l2⟩ := lo_ok (P := P) hlk hlo .sliceB w
              have hhc : h ≤ cap ∧ ∀ code, (match xh with | some v => Instr.sliceBound v cap' code | none => pure len).run P w = .ok h w := by
                cases hi <;> cases xh <;> try exact hhi.elim
                · have := bnd_none hh
                  subst this
                  exact ⟨hl, fun _ => rfl⟩
                · exact ⟨(bnd_ok (P := P) hh hhi hc .sliceAcap w).1, fun code => (bnd_ok hh hhi hc code w).2⟩
              have e2 := hhc.2 .sliceAcap
              have hb3 : (Instr.sliceBounds true len cap' xl xh none).run P w = .ok (l, h, cap') w := by
                cases xh <;> cases xl <;> simp [Instr.sliceBounds] at e2 l2 ⊢ <;> simp_all
              split at he
              · split at he
                · rename_i hb4
                  have := Nat.eq_of_beq_eq_true hb4
                  subst this
                  injection he with he
                  subst he
                  by_cases hcl : cap' = h
                  · refine ⟨.slice (some ⟨(μ b).blk, (μ b).sh + o, none⟩) 0 (cap' - h), ?_, .e _ _⟩
                    simp [Instr.sliceAt, run_underlying hu, Instr.slice, hb3, szOf_run hz w]
                    exact fun h9 => absurd hcl h9
                  · refine ⟨.slice (some ((⟨(μ b).blk, (μ b).sh + o, none⟩ : Addr).add (h * z'))) 0 (cap' - h), ?_, .e _ _⟩
                    simp [Instr.sliceAt, run_underlying hu, Instr.slice, hb3, szOf_run hz w, hcl]
                · cases he
              · rename_i hb2
                refine ⟨_, ?_, cutS_ok he hS cap' l1 hhc.1 hc hop hb2 hs⟩
                simp [Instr.sliceAt, run_underlying hu, Instr.slice, hb3, szOf_run hz w]
                split <;> rfl
            · cases he
          · cases he
        · rename_i m hb
          have hzz := Nat.eq_of_beq_eq_true hb
          subst hzz
          obtain ⟨xm, rfl⟩ : ∃ y, xm = some y := by cases xm with | none => exact hmx.elim | some y => exact ⟨y, rfl⟩
          split at he
          · rename_i m hv hm
            obtain ⟨xh, rfl⟩ : ∃ y, xh = some y := by cases xh with | none => exact hhi.elim | some y => exact ⟨y, rfl⟩
            split at he
            · rename_i h hh
              split at he
              · rename_i l hlk
                obtain ⟨m1, m2⟩ := bnd_ok (P := P) hm hmx hc .slice3Acap w
                obtain ⟨k1, k2⟩ := bnd_ok (P := P) hh hhi (Nat.le_refl _) .slice3B w
                obtain ⟨l1, l2⟩ := lo_ok (P := P) hlk hlo .slice3C w
                have hmul : m * z' ≤ cap' * z' := Nat.mul_le_mul_right _ (by omega)
                refine ⟨_, ?_, cutS_ok he hS m l1 k1 (Nat.le_refl _) (fun _ => rfl) rfl (by omega)⟩
                have hb3 : (Instr.sliceBounds true len cap' xl (some xh) (some xm)).run P w = .ok (l, h, m) w := by
                  cases xl <;> simp [Instr.sliceBounds] at l2 ⊢ <;> simp_all
                simp [Instr.sliceAt, run_underlying hu, Instr.slice, hb3, szOf_run hz w]
                split <;> rfl
              · cases he
            · cases he
          · cases he
        · cases he
      · cases he
  · rename_i k e b o hu
    cases hv with
    | p _ _ hS =>
      split at he
      · rename_i cs len el fz ro z hb hz
        have hxm : xm = none := by cases xm with | none => rfl | some _ => exact hmx.elim
        subst hxm
        split at he
        · rename_i h hle hh
          split at he
          · rename_i l hlk
            simp only [Nat.ble_eq] at hle
            obtain ⟨_, c, fr, _, _, g2, _, _⟩ := r.row hb
            obtain ⟨l1, l2⟩ := lo_ok (P := P) hlk hlo .sliceB w
            have hhc : h ≤ k ∧ ∀ code, (match xh with | some v => Instr.sliceBound v k code | none => pure k).run P w = .ok h w := by
              cases hi <;> cases xh <;> try exact hhi.elim
              · have := bnd_none hh
                subst this
                exact ⟨Nat.le_refl _, fun _ => rfl⟩
              · exact ⟨(bnd_ok (P := P) hh hhi (Nat.le_refl _) .sliceAcap w).1, fun code => (bnd_ok hh hhi (Nat.le_refl _) code w).2⟩
            refine ⟨_, ?_, cutS_ok he hS k l1 hhc.1 (Nat.le_refl _) (fun _ => rfl) rfl (by omega)⟩
            have e2 := hhc.2 .sliceAlen
            have hb3 : (Instr.sliceBounds false k k xl xh none).run P w = .ok (l, h, k) w := by
              cases xh <;> cases xl <;> simp [Instr.sliceBounds] at e2 l2 ⊢ <;> simp_all
            simp [Instr.sliceAt, run_underlying hu, Instr.sureAddr, hb3, szOf_run hz w]
          · cases he
        · cases he
      · cases he
  · cases he
end
end Ev
end Go.Proofs.YtmlhijlcefogmaaGreatDoor
