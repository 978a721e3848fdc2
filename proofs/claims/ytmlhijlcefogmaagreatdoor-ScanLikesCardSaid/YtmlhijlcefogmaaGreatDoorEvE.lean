/-
  Evaluation of closed runs, part E: new rows, addresses, slices, parts of structs. No conditions; no program.
-/
import Derived.Test.YtmlhijlcefogmaaGreatDoorEvD
set_option linter.unusedVariables false
namespace Go.Proofs.YtmlhijlcefogmaaGreatDoor
namespace Ev

theorem Addr.add_none (b o k : Nat) : (⟨b, o, none⟩ : Addr).add k = ⟨b, o + k, none⟩ := by unfold Addr.add; split <;> simp_all

noncomputable section
/-- A new row. -/
def newRow (H : T O) (n : Nat) (vs : List V) (el : TypeId) (v : V) : Option Nx :=
  match allOne vs with
  | true => putNK vs 0 .nil fun cs => fN vs.length fun len => H.putK n (some (.row cs len el ⟨0, false, true⟩ false)) fun H => some (.val v H (n + 1))
  | false => none
end
section
variable {P : Program} {G : Nat} {S : Nat → Prop} {μ : Nat → Loc} {w : World} {n : Nat}
theorem newRow_spec {H : T O} {vs : List V} {el : TypeId} {v : V} {r : Nx} (h : newRow H n vs el v = some r) : allOne vs = true ∧ r = .val v (H.put n (some (.row (putN vs 0 .nil) vs.length el ⟨0, false, true⟩ false))) (n + 1) := by
  unfold newRow at h
  split at h
  · rename_i hc
    rw [putNK_eq, fN_eq, T.putK_eq] at h
    injection h with h
    exact ⟨hc, h.symm⟩
  · cases h
theorem VRs.up {vs : List V} {xs : List Value} (h : VRs S μ vs xs) (hn : ¬ S n) (l : Loc) : VRs (S1 S n) (μ1 μ n l) vs xs := h.mono (fun _ => .inl) (μ1_same hn)
theorem newRow_ok {H : T O} {vs : List V} {xs : List Value} {el : TypeId} {v : V} {r : Nx} (h : newRow H n vs el v = some r) (hr : RH G S μ H.at w) (hn : ¬ S n) (hv : VRs S μ vs xs) {x : Value} {s : Result Next}
    (hs : s = .ok (.value x) (w.alloc (.cells xs.toArray el))) (hx : VR (S1 S n) (μ1 μ n ⟨w.heap.size, 0, xs.length⟩) v x) : OpOk P G S μ H.at s w n r := by
  obtain ⟨h1, rfl⟩ := newRow_spec h
  have hl := hv.length
  have ho : OR (S1 S n) (μ1 μ n ⟨w.heap.size, 0, xs.length⟩) ⟨w.heap.size, 0, xs.length⟩ (.cells xs.toArray el) (.row (putN vs 0 .nil) vs.length el ⟨0, false, true⟩ false) := by
    refine ⟨xs.toArray, (0, 0), rfl, by simp, by simp; omega, ⟨fun _ => ⟨rfl, by simp; omega⟩, fun _ => Nat.zero_le _, fun o _ _ => by simp⟩, fun i u hu => ?_⟩
    rw [putN_at] at hu
    split at hu
    · rename_i hi
      obtain ⟨y, hy, hyr⟩ := hv.at _ _ hu
      refine ⟨by omega, y, by simpa using hy, allOne_spec h1 u (List.mem_of_getElem? hu), hyr.mono (fun _ => .inl) (μ1_same hn)⟩
    · rw [T.at_nil] at hu; cases hu
  obtain ⟨a, b⟩ := hr.alloc hn (.cells xs.toArray el) xs.length _ ho
  exact ⟨x, _, _, _, .inl hs, hx, by rw [at_put1]; exact a, by rw [at_put1]; exact b⟩
theorem VR.newP (l : Loc) (hl : l.sh = 0) : VR (S1 S n) (μ1 μ n l) (.p n 0) (.pointer (some ⟨l.blk, 0, none⟩)) := by
  have := VR.p (S := S1 S n) (μ := μ1 μ n l) n 0 (.inr ⟨Nat.le_refl _, Nat.lt_succ_self _⟩)
  rw [μ1_new, hl] at this
  exact this
theorem VR.newS (l : Loc) (hl : l.sh = 0) (len cap z : Nat) (op : Bool) (cap' : Nat) (h1 : len ≤ cap) (h2 : cap ≤ cap') (h3 : op = false → cap' = cap) (h4 : cap' * z ≤ l.sz) : VR (S1 S n) (μ1 μ n l) (.s n 0 len cap z op) (.slice (some ⟨l.blk, 0, none⟩) len cap') := by
  have := VR.s (S := S1 S n) (μ := μ1 μ n l) n 0 len cap z op cap' (.inr ⟨Nat.le_refl _, Nat.lt_succ_self _⟩) h1 h2 h3 (by rw [μ1_new, hl]; omega)
  rw [μ1_new, hl] at this
  exact this
end

/-! ### alloc, box -/
noncomputable section
def zeroV (P : Program) (t : TypeId) : Option (List V) := match P.info? t with | some i => i.zero.map fun z => z.cells.toList.map ofAtom | none => none
def eAlloc (P : Program) (H : T O) (n : Nat) (t : TypeId) : Option Nx := match zeroV P t with | some vs => newRow H n vs t (.p n 0) | none => none
def eBox (H : T O) (n : Nat) (t : TypeId) (v : V) : Option Nx := newRow H n v.cells t (.p n 0)
end
section
variable {P : Program} {G : Nat} {S : Nat → Prop} {μ : Nat → Loc} {w : World} {n : Nat}
theorem zeroV_spec {t : TypeId} {vs : List V} (h : zeroV P t = some vs) : ∃ i z, P.info? t = some i ∧ i.zero = some z ∧ VRs S μ vs z.cells.toList ∧ (zeroValue t).run P w = .ok z w := by
  unfold zeroV at h
  split at h
  · rename_i i hi
    simp only [Option.map_eq_some_iff] at h
    obtain ⟨z, hz, rfl⟩ := h
    exact ⟨i, z, hi, hz, .ofAtoms _, by simp [zeroValue, typeInfo, hi, hz]⟩
  · cases h
theorem eAlloc_ok {H : T O} {t : TypeId} {r : Nx} (he : eAlloc P H n t = some r) (hr : RH G S μ H.at w) (hn : ¬ S n) {ρ : Operand → Value} {o : Oper} (ho : o.op = .alloc t) : OpOk P G S μ H.at ((execOp ρ o).run P w) w n r := by
  unfold eAlloc at he
  split at he
  · rename_i vs hz
    obtain ⟨i, z, h1, h2, h3, h4⟩ := zeroV_spec (P := P) (S := S) (μ := μ) (w := w) hz
    refine newRow_ok (x := .pointer (some ⟨w.heap.size, 0, none⟩)) he hr hn h3 ?_ (VR.newP _ rfl)
    simp [execOp, ho, Instr.alloc, h4, newVar, Go.newRow]
  · cases he
theorem eBox_ok {H : T O} {t : TypeId} {v : V} {r : Nx} (he : eBox H n t v = some r) (hr : RH G S μ H.at w) (hn : ¬ S n) {ρ : Operand → Value} {o : Oper} {x : Operand} (ho : o.op = .box t x) (hv : VR S μ v (ρ x)) : OpOk P G S μ H.at ((execOp ρ o).run P w) w n r := by
  unfold eBox at he
  have h1 := (newRow_spec he).1
  refine newRow_ok (x := .pointer (some ⟨w.heap.size, 0, none⟩)) he hr hn (hv.cells' (allOne_spec h1)) ?_ (VR.newP _ rfl)
  simp [execOp, ho, Instr.box, newVar, Go.newRow]
end

/-! ### Literals -/
/-- No row that is told as one value. -/
def plainG (v : V) : Bool := match v with | .g x => x.oneCell' | _ => true
theorem VR.cellsG {S : Nat → Prop} {μ : Nat → Loc} {v : V} {x : Value} (h : VR S μ v x) (hone : plainG v = true) : VRs S μ v.cells x.cells.toList := by
  rcases h.cells with h1 | ⟨y, rfl⟩
  · exact h1
  · have hyx : x = y := by cases h; rfl
    subst hyx
    have e : x.cells = #[x] := by cases x <;> simp_all [Value.cells, Value.oneCell', plainG]
    rw [e]
    exact .cons (.g _) .nil
noncomputable section
def ovr (cells : List V) (off : Nat) (vs : List V) : List V := cells.take off ++ vs ++ cells.drop (off + vs.length)
def fillV (place : Nat → Option (Nat × Nat)) (parts : List (Nat × V)) : List V → Option (List V) :=
  List.rec (motive := fun _ => List V → Option (List V)) some
    (fun x _ ih cells => match place x.1 with
      | none => none
      | some (off, size) => match Nat.beq x.2.cells.length size && Nat.ble (off + x.2.cells.length) cells.length && plainG x.2 with
        | true => ih (ovr cells off x.2.cells)
        | false => none) parts
/-- The parts' values. -/
def evP (F : T V) (l : List (Nat × Operand)) : Option (List (Nat × V)) :=
  List.rec (motive := fun _ => Option (List (Nat × V))) (some []) (fun x _ ih => match ev F x.2 with | none => none | some v => match ih with | none => none | some vs => some ((x.1, v) :: vs)) l
def placesOf (P : Program) (fields : Array Field) : Option (List (Nat × Nat)) := fields.toList.mapM fun f => (P.info? f.type).map fun i => (f.offset, i.size)
def eBuild (P : Program) (t : TypeId) (parts : List (Nat × V)) : Option V :=
  match zeroV P t with
  | none => none
  | some z => match P.underlying t with
    | some (.struct fields) => match placesOf P fields with
      | some places => (fillV (fun i => places[i]?) parts z).map .a
      | none => none
    | some (.array _ e) => match szOf P e with
      | some s => (fillV (fun i => some (i * s, s)) parts z).map .a
      | none => none
    | _ => none
end
section
variable {P : Program} {G : Nat} {S : Nat → Prop} {μ : Nat → Loc} {w : World} {n : Nat}
theorem fold_get (vs : List Value) : ∀ (k off : Nat) (cs : Array Value), ((vs.zipIdx k).foldl (fun cs (x : Value × Nat) => cs.setIfInBounds (off + x.2) x.1) cs).size = cs.size ∧
    ∀ i, ((vs.zipIdx k).foldl (fun cs (x : Value × Nat) => cs.setIfInBounds (off + x.2) x.1) cs)[i]? = if off + k ≤ i ∧ i < off + k + vs.length ∧ i < cs.size then vs[i - (off + k)]? else cs[i]? := by
  induction vs with
  | nil => intro k off cs; exact ⟨rfl, fun i => by rw [if_neg (by simp; omega)]; rfl⟩
  | cons v vs ih =>
    intro k off cs
    obtain ⟨h1, h2⟩ := ih (k + 1) off (cs.setIfInBounds (off + k) v)
    simp only [List.zipIdx_cons, List.foldl_cons]
    refine ⟨by rw [h1]; simp, fun i => ?_⟩
    rw [h2 i]
    simp only [Array.size_setIfInBounds, List.length_cons]
    by_cases hi : off + (k + 1) ≤ i ∧ i < off + (k + 1) + vs.length ∧ i < cs.size
    · rw [if_pos hi, if_pos (by omega), show i - (off + k) = (i - (off + (k + 1))) + 1 by omega, List.getElem?_cons_succ]
    · rw [if_neg hi]
      by_cases e : i = off + k
      · subst e
        by_cases hs : off + k < cs.size
        · rw [if_pos (by omega), Nat.sub_self, List.getElem?_cons_zero, Array.getElem?_setIfInBounds_self, if_pos hs]
        · rw [if_neg (by omega), Array.getElem?_setIfInBounds_self, if_neg hs]; simp; omega
      · rw [Array.getElem?_setIfInBounds_ne (by omega), if_neg (by omega)]
theorem ovr_ok {cells vs : List V} {cs : Array Value} {xs : Array Value} {off : Nat} (hc : VRs S μ cells cs.toList) (hv : VRs S μ vs xs.toList) (hl : off + vs.length ≤ cells.length) :
    VRs S μ (ovr cells off vs) (xs.zipIdx.foldl (fun cs (x : Value × Nat) => cs.setIfInBounds (off + x.2) x.1) cs).toList := by
  have e : (xs.zipIdx.foldl (fun cs (x : Value × Nat) => cs.setIfInBounds (off + x.2) x.1) cs) = ((xs.toList.zipIdx 0).foldl (fun cs (x : Value × Nat) => cs.setIfInBounds (off + x.2) x.1) cs) := by
    rw [← Array.foldl_toList]; simp
  rw [e]
  obtain ⟨h1, h2⟩ := fold_get xs.toList 0 off cs
  have hvl := hv.length
  have hcl := hc.length
  refine VRs.of (by simp [h1, ovr] at *; omega) fun i v hi => ?_
  have := h2 i
  rw [← Array.getElem?_toList] at this
  rw [this]
  unfold ovr at hi
  simp only [Nat.add_zero]
  simp only [Array.length_toList] at hvl hcl
  have ht : (cells.take off).length = off := by simp; omega
  by_cases c1 : i < off
  · rw [if_neg (by omega)]
    rw [List.append_assoc, List.getElem?_append_left (by omega), List.getElem?_take_of_lt c1] at hi
    obtain ⟨y, hy, hr⟩ := hc.at _ _ hi
    exact ⟨y, by simpa using hy, hr⟩
  · by_cases c2 : i < off + vs.length
    · rw [if_pos (by simp; omega)]
      rw [List.append_assoc, List.getElem?_append_right (by omega), List.getElem?_append_left (by omega), ht] at hi
      exact hv.at _ _ hi
    · rw [if_neg (by simp; omega)]
      rw [List.getElem?_append_right (by simp; omega), List.getElem?_drop] at hi
      have e2 : off + vs.length + (i - (List.take off cells ++ vs).length) = i := by simp; omega
      rw [e2] at hi
      obtain ⟨y, hy, hr⟩ := hc.at _ _ hi
      exact ⟨y, by simpa using hy, hr⟩
inductive PR (S : Nat → Prop) (μ : Nat → Loc) : List (Nat × V) → List (Nat × Value) → Prop
  | nil : PR S μ [] []
  | cons {i : Nat} {v : V} {x : Value} {vs : List (Nat × V)} {xs : List (Nat × Value)} (h : VR S μ v x) (hs : PR S μ vs xs) : PR S μ ((i, v) :: vs) ((i, x) :: xs)
theorem fillV_cons (place : Nat → Option (Nat × Nat)) (x : Nat × V) (parts : List (Nat × V)) (cells : List V) : fillV place (x :: parts) cells = match place x.1 with
      | none => none
      | some (off, size) => match Nat.beq x.2.cells.length size && Nat.ble (off + x.2.cells.length) cells.length && plainG x.2 with
        | true => fillV place parts (ovr cells off x.2.cells)
        | false => none := rfl
theorem fillV_ok {place : Nat → Option (Nat × Nat)} : ∀ {parts : List (Nat × V)} {ps : List (Nat × Value)} {cells out : List V} {cs : Array Value}, fillV place parts cells = some out → PR S μ parts ps → VRs S μ cells cs.toList →
    ∃ cs', Instr.fill place cs ps = some cs' ∧ VRs S μ out cs'.toList := by
  intro parts
  induction parts with
  | nil => intro ps cells out cs h hp hc; cases hp; injection h with h; subst h; exact ⟨cs, rfl, hc⟩
  | cons p parts ih =>
    intro ps cells out cs h hp hc
    cases hp with
    | cons hv hp =>
      rename_i i v x ps
      rw [fillV_cons] at h
      simp only at h
      split at h
      · cases h
      · rename_i off size hpl
        split at h
        · rename_i hcnd
          simp only [Bool.and_eq_true, Nat.ble_eq] at hcnd
          have e1 := Nat.eq_of_beq_eq_true hcnd.1.1
          have hvs := hv.cellsG hcnd.2
          have hl := hvs.length
          have hcl := hc.length
          simp only [Array.length_toList] at hl hcl
          obtain ⟨cs', k1, k2⟩ := ih h hp (ovr_ok hc hvs hcnd.1.2)
          refine ⟨cs', ?_, k2⟩
          rw [Instr.fill]
          simp only [hpl]
          rw [if_neg (by simp; omega)]
          exact k1
        · cases h
theorem evP_ok {F : T V} {ρ : Operand → Value} : ∀ {l : List (Nat × Operand)} {vs : List (Nat × V)}, evP F l = some vs → ρOk S μ F ρ (l.map (·.2)) → PR S μ vs (l.map fun x => (x.1, ρ x.2)) := by
  intro l
  induction l with
  | nil => intro vs h _; injection h with h; subst h; exact .nil
  | cons x l ih =>
    intro vs h hρ
    have h' : (match ev F x.2 with | none => none | some v => match evP F l with | none => none | some vs => some ((x.1, v) :: vs)) = some vs := h
    cases h1 : ev F x.2 with
    | none => simp [h1] at h'
    | some v =>
      cases h2 : evP F l with
      | none => simp [h1, h2] at h'
      | some vs' =>
        simp [h1, h2] at h'
        subst h'
        exact .cons (hρ x.2 (by simp) v h1) (ih h2 fun y hy => hρ y (by simp at hy ⊢; exact .inr hy))
theorem eBuild_ok {F : T V} {t : TypeId} {parts : Array (Nat × Operand)} {vs : List (Nat × V)} {u : V} (hp : evP F parts.toList = some vs) (he : eBuild P t vs = some u) {ρ : Operand → Value} {o : Oper} (ho : o.op = .build t parts)
    (hρ : ρOk S μ F ρ o.op.operands.toList) : ∃ y, (execOp ρ o).run P w = .ok (.value y) w ∧ VR S μ u y := by
  have hpr := evP_ok hp (fun x hx => hρ x (by rw [ho]; simpa [Op.operands] using hx))
  have hpe : (parts.toList.map fun x => (x.1, ρ x.2)) = (parts.map fun (i, x) => (i, ρ x)).toList := by simp
  rw [hpe] at hpr
  unfold eBuild at he
  split at he
  · cases he
  · rename_i z hz
    obtain ⟨it, zv, h1, h2, h3, h4⟩ := zeroV_spec (P := P) (S := S) (μ := μ) (w := w) hz
    have key : ∀ place : Nat → Option (Nat × Nat), (fillV place vs z).map V.a = some u → ∃ cells, Instr.fill place zv.cells (parts.map fun (i, x) => (i, ρ x)).toList = some cells ∧ VR S μ u (.agg cells) := by
      intro place hf
      simp only [Option.map_eq_some_iff] at hf
      obtain ⟨out, hf, rfl⟩ := hf
      obtain ⟨cs', k1, k2⟩ := fillV_ok hf hpr h3
      exact ⟨cs', k1, by have := VR.a _ _ k2; simpa using this⟩
    split at he
    · rename_i fields hu
      split at he
      · rename_i places hpl
        obtain ⟨cells, k1, k2⟩ := key _ he
        refine ⟨_, ?_, k2⟩
        have hb : P.built t (parts.map fun (i, x) => (i, ρ x)).toList = some cells := by
          unfold Program.built
          unfold placesOf at hpl
          simp only [h1, hu, h2, hpl]
          simpa using k1
        simp [execOp, ho, run_build w t _ cells hb]
      · cases he
    · rename_i e hu
      split at he
      · rename_i s hs
        obtain ⟨cells, k1, k2⟩ := key _ he
        refine ⟨_, ?_, k2⟩
        have hb : P.built t (parts.map fun (i, x) => (i, ρ x)).toList = some cells := by
          unfold Program.built
          simp only [szOf, Option.map_eq_some_iff] at hs
          obtain ⟨ie, hs1, hs2⟩ := hs
          simp only [h1, hu, h2, hs1, hs2]
          simpa using k1
        simp [execOp, ho, run_build w t _ cells hb]
      · cases he
    · cases he
end

/-! ### Slices that are laid -/
noncomputable section
def rep (z : List V) (k : Nat) : List V := Nat.rec (motive := fun _ => List V) [] (fun _ ih => z ++ ih) k
def eBuildS (P : Program) (H : T O) (n : Nat) (t : TypeId) (len : Nat) (parts : List (Nat × V)) : Option Nx :=
  match P.underlying t with
  | some (.slice e) => match szOf P e, zeroV P e with
    | some s, some z => match Nat.ble (len * s) (2 ^ 24) && Nat.beq z.length s with
      | true => match fillV (fun i => some (i * s, s)) parts (rep z len) with
        | some out => newRow H n out e (.s n 0 len len s false)
        | none => none
      | false => none
    | _, _ => none
  | _ => none
def eMake (P : Program) (H : T O) (n : Nat) (t : TypeId) (len cap : V) : Option Nx :=
  match P.underlying t, len, cap with
  | some (.slice e), .i _ (.ofNat l), .i _ (.ofNat c) => match P.info? e, zeroV P e with
    | some i, some z => match Nat.ble c (2 ^ 20) && Nat.ble l c && Nat.ble (i.bytes * c) (2 ^ 47) && Nat.beq z.length i.size with
      | true => newRow H n (rep z c) e (.s n 0 l c i.size false)
      | false => none
    | _, _ => none
  | _, _, _ => none
end
section
variable {P : Program} {G : Nat} {S : Nat → Prop} {μ : Nat → Loc} {w : World} {n : Nat}
theorem rep_succ (z : List V) (k : Nat) : rep z (k + 1) = z ++ rep z k := rfl
theorem rep_length (z : List V) (k : Nat) : (rep z k).length = k * z.length := by
  induction k with
  | zero => show ([] : List V).length = _; simp
  | succ k ih => rw [rep_succ, List.length_append, ih, Nat.succ_mul, Nat.add_comm]
theorem rep_get (z : List V) : ∀ (k i : Nat), i < k * z.length → (rep z k)[i]? = z[i % z.length]? := by
  intro k
  induction k with
  | zero => intro i hi; simp at hi
  | succ k ih =>
    intro i hi
    rw [rep_succ]
    by_cases c : i < z.length
    · rw [List.getElem?_append_left c, Nat.mod_eq_of_lt c]
    · rw [List.getElem?_append_right (by omega), ih _ (by rw [Nat.succ_mul] at hi; omega), ← Nat.mod_eq_sub_mod (by omega)]
theorem rep_ok {z : List V} {zv : Value} (h : VRs S μ z zv.cells.toList) (k m : Nat) (hm : m = k * z.length) : VRs S μ (rep z k) ((Array.range m).map (zv.cells[· % zv.cells.size]!)).toList := by
  subst hm
  have hl := h.length
  simp only [Array.length_toList] at hl
  refine VRs.of (by simp [rep_length]) fun i v hi => ?_
  have hlt : i < k * z.length := by
    have := (List.getElem?_eq_some_iff.1 hi).1
    rwa [rep_length] at this
  rw [rep_get z k i hlt] at hi
  obtain ⟨y, hy, hr⟩ := h.at _ _ hi
  have hpos : 0 < z.length := by
    rcases Nat.eq_zero_or_pos z.length with e | e
    · rw [e] at hlt; omega
    · exact e
  have hmod : i % z.length < zv.cells.size := by rw [hl]; exact Nat.mod_lt _ hpos
  refine ⟨y, ?_, hr⟩
  rw [Array.getElem?_toList, Array.getElem?_map, Array.getElem?_range, if_pos hlt]
  rw [Array.getElem?_toList, Array.getElem?_eq_getElem hmod] at hy
  injection hy with hy
  simp only [Option.map_some, Option.some.injEq]
  rw [hl]
  rw [getElem!_pos zv.cells (i % z.length) hmod]
  exact hy
theorem run_buildSlice0 (w : World) (t e : TypeId) (len : Nat) (parts : Array (Nat × Value)) (cells : Array Value) (ie : TypeInfo) (z : Value)
    (hu : P.underlying t = some (.slice e)) (hie : P.info? e = some ie) (hz : ie.zero = some z) (hsmall : ¬ len * ie.size > 2 ^ 24)
    (h : Instr.fill (fun i => some (i * ie.size, ie.size)) ((Array.range (len * ie.size)).map (z.cells[· % z.cells.size]!)) parts.toList = some cells) :
    (Instr.buildSlice t len parts).run P w = .ok (.slice (some ⟨w.heap.size, 0, none⟩) len len) (w.alloc (.cells cells e)) := by
  by_cases hpos : len * ie.size = 0
  · have h0 : ∀ f : Nat → Value, Array.map f (Array.range 0) = #[] := fun f => by apply Array.ext'; simp
    rw [hpos, h0] at h
    simp only [Instr.buildSlice, run_underlying hu, sizeOf, typeInfo, zeroValue, Sem.run_bind, Sem.run_pure, Result.andThen_ok]
    simp [h, hie, Go.newRow, hpos, h0]
  · exact run_buildSlice w t e len parts cells ie z hu hie hz hsmall hpos h
theorem eBuildS_ok {H : T O} {F : T V} {t : TypeId} {len : Nat} {parts : Array (Nat × Operand)} {vs : List (Nat × V)} {r : Nx} (hp : evP F parts.toList = some vs) (he : eBuildS P H n t len vs = some r) (hr : RH G S μ H.at w) (hn : ¬ S n)
    {ρ : Operand → Value} {o : Oper} (ho : o.op = .buildSlice t len parts) (hρ : ρOk S μ F ρ o.op.operands.toList) : OpOk P G S μ H.at ((execOp ρ o).run P w) w n r := by
  have hpr := evP_ok hp (fun x hx => hρ x (by rw [ho]; simpa [Op.operands] using hx))
  have hpe : (parts.toList.map fun x => (x.1, ρ x.2)) = (parts.map fun (i, x) => (i, ρ x)).toList := by simp
  rw [hpe] at hpr
  unfold eBuildS at he
  split at he
  · rename_i e hu
    split at he
    · rename_i s z hs hz
      split at he
      · rename_i hc
        simp only [Bool.and_eq_true, Nat.ble_eq] at hc
        have hzl := Nat.eq_of_beq_eq_true hc.2
        obtain ⟨it, zv, h1, h2, h3, h4⟩ := zeroV_spec (P := P) (S := S) (μ := μ) (w := w) hz
        simp only [szOf, h1, Option.map_some, Option.some.injEq] at hs
        subst hs
        split at he
        · rename_i out hf
          obtain ⟨cs', k1, k2⟩ := fillV_ok hf hpr (rep_ok h3 len (len * it.size) (by rw [hzl]))
          have hlen := k2.length
          have hol : out.length = len * it.size := by
            have : ∀ {parts : List (Nat × V)} {cells out : List V}, fillV (fun i => some (i * it.size, it.size)) parts cells = some out → out.length = cells.length := by
              intro parts
              induction parts with
              | nil => intro cells out h; injection h with h; rw [h]
              | cons p parts ih =>
                intro cells out h
                rw [fillV_cons] at h
                simp only at h
                split at h
                · rename_i hc'
                  simp only [Bool.and_eq_true, Nat.ble_eq] at hc'
                  rw [ih h]
                  simp [ovr]
                  omega
                · cases h
            rw [this hf, rep_length, hzl]
          refine newRow_ok (x := .slice (some ⟨w.heap.size, 0, none⟩) len len) he hr hn k2 ?_ (VR.newS _ rfl len len it.size false len (Nat.le_refl _) (Nat.le_refl _) (fun _ => rfl) (by show len * it.size ≤ cs'.toList.length; omega))
          simp only [execOp, ho, Sem.run_bind]
          rw [run_buildSlice0 w t e len _ cs' it zv hu h1 h2 (by have := hc.1; omega) k1]
          simp
        · cases he
      · cases he
    · cases he
  · cases he
theorem vr_int {k : IntKind} {z : Int} {x : Value} (h : VR S μ (.i k z) x) : x = .int k z := by cases h; rfl
theorem range_map (f : Nat → Value) (k : Nat) : Array.map f (Array.range k) = (List.map f (List.range k)).toArray := by apply Array.ext'; simp
theorem wrap_small (c : Nat) (h : c ≤ 2 ^ 20) : IntKind.i64.wrap (c : Int) = (c : Int) := by
  have : (c : Int) % (2 ^ 64 : Int) = c := by omega
  simp [IntKind.wrap, IntKind.bits, IntKind.signed]
  omega
theorem eMake_ok {H : T O} {t : TypeId} {l c : V} {r : Nx} (he : eMake P H n t l c = some r) (hr : RH G S μ H.at w) (hn : ¬ S n) {ρ : Operand → Value} {o : Oper} {x y : Operand} (ho : o.op = .makeSlice t x y) (hl : VR S μ l (ρ x)) (hc : VR S μ c (ρ y)) :
    OpOk P G S μ H.at ((execOp ρ o).run P w) w n r := by
  unfold eMake at he
  split at he
  · rename_i e k l k' c hu
    have e1 : ρ x = .int k (l : Int) := vr_int hl
    have e2 : ρ y = .int k' (c : Int) := vr_int hc
    split at he
    · rename_i i z hi hz
      split at he
      · rename_i hb
        simp only [Bool.and_eq_true, Nat.ble_eq] at hb
        obtain ⟨⟨⟨b1, b2⟩, b3⟩, b4⟩ := hb
        have hzl := Nat.eq_of_beq_eq_true b4
        obtain ⟨it, zv, h1, h2, h3, h4⟩ := zeroV_spec (P := P) (S := S) (μ := μ) (w := w) hz
        rw [hi] at h1
        injection h1 with h1
        subst h1
        have hrep := rep_ok h3 c (c * i.size) (by rw [hzl])
        have wl := wrap_small l (by omega)
        have wc := wrap_small c b1
        have hby : ¬ ((i.bytes : Int) * (c : Int) > 281474976710656) := by
          have : ((i.bytes * c : Nat) : Int) ≤ 2 ^ 47 := by exact_mod_cast b3
          rw [Int.natCast_mul] at this
          omega
        refine newRow_ok (x := .slice (some ⟨w.heap.size, 0, none⟩) l c) he hr hn hrep ?_ (VR.newS _ rfl l c i.size false c b2 (Nat.le_refl _) (fun _ => rfl) (by simp))
        simp [execOp, ho, e1, e2, Instr.makeSlice, run_underlying hu, asInt, asIntOf, typeInfo, hi, wl, wc, sizeOf, Go.newRow]
        rw [if_neg (by omega)]
        by_cases h0 : c * i.size = 0
        · simp [h0, range_map]
        · simp [h0, h4, range_map]
      · cases he
    · cases he
  · cases he
end
end Ev
end Go.Proofs.YtmlhijlcefogmaaGreatDoor
