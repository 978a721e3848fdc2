/-
  Evaluation of closed runs, part I2: ranges over strings and maps, entries of maps. No conditions; no program.
-/
import Derived.Test.YtmlhijlcefogmaaGreatDoorEvI
set_option linter.unusedVariables false
set_option linter.unusedSimpArgs false
namespace Go.Proofs.YtmlhijlcefogmaaGreatDoor
namespace Ev

noncomputable section
def eRange (P : Program) (H : T O) (n : Nat) (t : TypeId) (x : V) : Option Nx :=
  match P.underlying t, x with
  | some .string, .str l => H.putK n (some (.sit l 0)) fun H => some (.val (.p n 0) H (n + 1))
  | some (.map _ _), .g (.map none) => H.putK n (some (.mit none 0 [] 0)) fun H => some (.val (.p n 0) H (n + 1))
  | some (.map _ _), .m b => match H.at b with
    | some (.map _ clock) => H.putK n (some (.mit (some b) clock [] clock)) fun H => some (.val (.p n 0) H (n + 1))
    | _ => none
  | _, _ => none
def seenB (seen : List Nat) (k : Nat) : Bool := seen.contains k
def eNext (H : T O) (n : Nat) (it : V) (isStr : Bool) : Option Nx :=
  match it, isStr with
  | .p b 0, true => match H.at b with
    | some (.sit s pos) => match Nat.blt pos s.length with
      | true => match Utf8.decode (bytesOf s) pos with
        | (c, width) => fN (pos + width) fun q => fN c fun c => H.putK b (some (.sit s q)) fun H => some (.val (.t [.b true, .i .i64 (.ofNat pos), .i .i32 (.ofNat c)]) H n)
      | false => some (.lt (.t [.b false]))
    | _ => none
  | .p b 0, false => match H.at b with
    | some (.mit none _ _ _) => some (.lt (.t [.b false]))
    | some (.mit (some m) since seen last) => match H.at m with
      | some (.map es clock) => match !seen.isEmpty && !es.isEmpty && es.all (fun e => Nat.ble last e.2.2) with
        | true => none
        | false => match es.filter (fun e => !seenB seen e.2.2) with
          | [] => some (.lt (.t [.b false]))
          | [e] => match Nat.blt e.2.2 since with
            | true => H.putK b (some (.mit (some m) since (seen ++ [e.2.2]) clock)) fun H => some (.val (.t [.b true, e.1, e.2.1]) H n)
            | false => none
          | _ => none
      | _ => none
    | _ => none
  | _, _ => none
def eEntry (H : T O) (it : V) : Option V :=
  match it with
  | .p b 0 => match H.at b with
    | some (.mit (some m) since seen stepped) => match seen.getLast?, H.at m with
      | some st, some (.map es clock) => match Nat.beq clock stepped, es.find? (fun e => Nat.beq e.2.2 st) with
        | true, some e => some (.t [e.1, e.2.1])
        | _, _ => none
      | _, _ => none
    | _ => none
  | _ => none
def eMapEntry (P : Program) (H : T O) (n : Nat) (t : TypeId) (m k : V) : Option Nx :=
  match P.underlying t, m with
  | some (.map kt el), .m b => match H.at b with
    | some (.map es clock) => match eFind P false kt k es with
      | some (kv, some i) => match es[i]? with
        | some e => match toVal e.1 with
          | some old => match runP P (Instr.keyThatStays old kv) with
            | some k' => H.putK b (some (.map (es.modify i fun e => (ofVal k', e.2.1, e.2.2)) clock)) fun H => some (.val (.t [e.2.1, .i .i64 (.ofNat e.2.2)]) H n)
            | none => none
          | none => none
        | none => none
      | some (_, none) => match P.info? el with
        | some i => match i.zero with
          | some z => fN (clock + 1) fun c => H.putK b (some (.map (es ++ [(k, ofVal z, clock)]) c)) fun H => some (.val (.t [ofVal z, .i .i64 (.ofNat clock)]) H n)
          | none => none
        | none => none
      | none => none
    | _ => none
  | _, _ => none
def eEntryStore (H : T O) (n : Nat) (m st v : V) : Option Nx :=
  match m, st with
  | .m b, .i _ (.ofNat s) => match H.at b with
    | some (.map es clock) => match es.findIdx? (fun e => Nat.beq e.2.2 s) with
      | some i => H.putK b (some (.map (es.modify i fun e => (e.1, v, e.2.2)) clock)) fun H => some (.val (.t []) H n)
      | none => none
    | _ => none
  | _, _ => none
end
section
variable {P : Program} {G : Nat} {S : Nat → Prop} {μ : Nat → Loc} {w : World} {n : Nat}
theorem newIter {H : T O} (hr : RH G S μ H.at w) (hn : ¬ S n) (x : Obj) (o : O) (ho : OR (S1 S n) (μ1 μ n ⟨w.heap.size, 0, 0⟩) ⟨w.heap.size, 0, 0⟩ x o) {s : Result Next} (hs : s = .ok (.value (.pointer (some ⟨w.heap.size, 0, none⟩))) (w.alloc x)) :
    OpOk P G S μ H.at s w n (.val (.p n 0) (H.put n (some o)) (n + 1)) := by
  obtain ⟨a, b⟩ := RH.alloc hr hn x 0 o ho
  exact ⟨_, _, _, _, .inl hs, VR.newP _ rfl, by rw [at_put1]; exact a, by rw [at_put1]; exact b⟩
theorem eRange_ok {H : T O} {t : TypeId} {x : V} {r : Nx} {y : Value} (he : eRange P H n t x = some r) (hr : RH G S μ H.at w) (hn : ¬ S n) (hv : VR S μ x y) :
    OpOk P G S μ H.at (((Instr.range t y).run P w).andThen fun v w => .ok (.value v) w) w n r := by
  unfold eRange at he
  split at he
  · rename_i l hu
    rw [T.putK_eq] at he
    injection he with he
    subst he
    cases hv with
    | str _ hl => exact newIter hr hn (.stringIter (bytesOf l) 0) (.sit l 0) ⟨rfl, rfl, hl⟩ (by simp [Instr.range, run_underlying hu])
  · rename_i hu
    rw [T.putK_eq] at he
    injection he with he
    subst he
    cases hv
    exact newIter hr hn (.mapIter none 0 #[] 0) (.mit none 0 [] 0) ⟨rfl, rfl, fun b hb => by cases hb⟩ (by simp [Instr.range, run_underlying hu])
  · rename_i k e b hu
    split at he
    · rename_i es clock hb
      rw [T.putK_eq] at he
      injection he with he
      subst he
      cases hv with
      | m _ hS =>
        obtain ⟨_, xs, h1, h2⟩ := RH.map hr hb
        refine newIter hr hn (.mapIter (some (μ b).blk) clock #[] clock) (.mit (some b) clock [] clock) ⟨rfl, ?_, fun c hc => by injection hc with hc; subst hc; exact .inl hS⟩ (by simp [Instr.range, run_underlying hu, run_getObj_map h1])
        simp [μ1_same hn b hS]
    · cases he
  · cases he
theorem RH.sit {h : Nat → Option O} (r : RH G S μ h w) {b : Nat} {s : List Nat} {pos : Nat} (hb : h b = some (.sit s pos)) : (μ b).sh = 0 ∧ w.heap[(μ b).blk]? = some (.stringIter (bytesOf s) pos) ∧ ∀ b ∈ s, b < 256 := by
  obtain ⟨hS, x, hx, h0, rfl, h2⟩ := r.ok b _ hb
  exact ⟨h0, hx, h2⟩
theorem RH.mit {h : Nat → Option O} (r : RH G S μ h w) {b : Nat} {m : Option Nat} {since : Nat} {seen : List Nat} {st : Nat} (hb : h b = some (.mit m since seen st)) :
    (μ b).sh = 0 ∧ w.heap[(μ b).blk]? = some (.mapIter (m.map fun b => (μ b).blk) since seen.toArray st) ∧ ∀ b, m = some b → S b := by
  obtain ⟨hS, x, hx, h0, rfl, h2⟩ := r.ok b _ hb
  exact ⟨h0, hx, h2⟩
theorem ER.filter {es : List (V × V × Nat)} {xs : List MapEntry} (h : ER S μ es xs) (p : Nat → Bool) : ER S μ (es.filter fun e => p e.2.2) (xs.filter fun e => p e.born) := by
  induction h with
  | nil => exact .nil
  | cons hk hv hr ih =>
    rename_i k v m x y es xs
    simp only [List.filter_cons]
    cases p m with
    | true => exact .cons hk hv ih
    | false => exact ih
theorem ER.all {es : List (V × V × Nat)} {xs : List MapEntry} (h : ER S μ es xs) (p : Nat → Bool) : es.all (fun e => p e.2.2) = xs.all (fun e => p e.born) := by
  induction h with
  | nil => rfl
  | cons hk hv _ ih => simp [ih]
theorem ER.isEmpty {es : List (V × V × Nat)} {xs : List MapEntry} (h : ER S μ es xs) : es.isEmpty = xs.isEmpty := by cases h <;> rfl
theorem ER.find {es : List (V × V × Nat)} {xs : List MapEntry} (h : ER S μ es xs) (p : Nat → Bool) : ∀ {e}, es.find? (fun e => p e.2.2) = some e → ∃ x, xs.find? (fun e => p e.born) = some x ∧ VR S μ e.1 x.key ∧ VR S μ e.2.1 x.val := by
  induction h with
  | nil => intro e he; cases he
  | cons hk hv hr ih =>
    rename_i k v m x y es xs
    intro e he
    simp only [List.find?_cons] at he ⊢
    cases hp : p m with
    | true => simp [hp] at he ⊢; subst he; exact ⟨hk, hv⟩
    | false => simp [hp] at he ⊢; exact ih (by simpa using he)
theorem ER.findIdx {es : List (V × V × Nat)} {xs : List MapEntry} (h : ER S μ es xs) (p : Nat → Bool) : es.findIdx? (fun e => p e.2.2) = xs.findIdx? (fun e => p e.born) := by
  induction h with
  | nil => rfl
  | cons hk hv _ ih => simp [List.findIdx?_cons, ih]
theorem beq_dec (a b : Nat) : Nat.beq a b = (a == b) := by
  cases h : Nat.beq a b with
  | true => simp [Nat.eq_of_beq_eq_true h]
  | false =>
    symm
    simp only [beq_eq_false_iff_ne, ne_eq]
    intro e
    subst e
    rw [Nat.beq_refl] at h
    cases h
theorem ble_dec (a b : Nat) : Nat.ble a b = decide (a ≤ b) := by
  cases h : Nat.ble a b with
  | true => simp [Nat.le_of_ble_eq_true h]
  | false => symm; simp; exact ble_not h
theorem run_getObj {b : Nat} {o : Obj} (h : w.heap[b]? = some o) (hc : ∀ c e f, o ≠ .cells c e f) : (getObj b).run P w = .ok o w := by
  simp only [getObj, Sem.run, h]
theorem run_setObj {b : Nat} {o o' : Obj} (h : w.heap[b]? = some o) (hc : ∀ c e f, o ≠ .cells c e f) : (setObj b o').run P w = .ok () { w with heap := w.heap.setIfInBounds b o' } := by
  simp only [setObj, Sem.run, h]
theorem eNext_ok {H : T O} {it : V} {isStr : Bool} {r : Nx} {y : Value} {ty : TypeId} (he : eNext H n it isStr = some r) (hr : RH G S μ H.at w) (hv : VR S μ it y) :
    OpOk P G S μ H.at (((Instr.next y isStr ty).run P w).andThen fun v w => .ok (.value v) w) w n r := by
  unfold eNext at he
  split at he
  · rename_i b
    cases hv with
    | p _ _ hS =>
      split at he
      case h_2 => cases he
      rename_i s pos hb
      obtain ⟨h0, h1, h2⟩ := RH.sit hr hb
      have hg := run_getObj (P := P) h1 (by intro c e f h; cases h)
      rw [h0]
      split at he
      · rename_i hlt
        have hlt := blt_lt hlt
        split at he
        rename_i c width hdec
        rw [fN_eq, fN_eq, T.putK_eq] at he
        injection he with he
        subst he
        obtain ⟨q1, q2⟩ := setHeap_upd (n := n) hr hb rfl (x := .stringIter (bytesOf s) (pos + width)) (o' := .sit s (pos + width)) ⟨h0, rfl, h2⟩
        refine ⟨.tuple #[.bool true, goInt pos, .int .i32 c], _, S, μ, .inl ?_, .t _ _ (.cons (.b _) (.cons (.i _ _) (.cons (.i _ _) .nil))), q1, q2⟩
        have hst := run_setObj (P := P) (o' := .stringIter (bytesOf s) (pos + width)) h1 (by intro c e f h; cases h)
        simp [Instr.next, hg, bytesOf_size, hlt, hdec, hst]
      · rename_i hlt
        injection he with he
        subst he
        have hlt : ¬ pos < s.length := fun h => by
          have : Nat.blt pos s.length = true := Nat.ble_eq_true_of_le h
          rw [this] at hlt; cases hlt
        exact ⟨.tuple #[.bool false], by simp [Instr.next, hg, bytesOf_size, hlt], .t _ _ (.cons (.b _) .nil)⟩
  · rename_i b
    cases hv with
    | p _ _ hS =>
      split at he
      · rename_i since seen last hb
        injection he with he
        subst he
        obtain ⟨h0, h1, h2⟩ := RH.mit hr hb
        have hg := run_getObj (P := P) h1 (by intro c e f h; cases h)
        rw [h0]
        exact ⟨.tuple #[.bool false], by simp [Instr.next, hg], .t _ _ (.cons (.b _) .nil)⟩
      · rename_i m since seen last hb
        obtain ⟨h0, h1, h2⟩ := RH.mit hr hb
        have hg := run_getObj (P := P) h1 (by intro c e f h; cases h)
        rw [h0]
        split at he
        case h_2 => cases he
        rename_i es clock hm
        obtain ⟨_, xs, m1, m2⟩ := RH.map hr hm
        have hgm := run_getObj_map (P := P) m1
        split at he
        · cases he
        rename_i hall
        have hall' : (!seen.toArray.isEmpty && !xs.toArray.isEmpty && xs.toArray.all fun e => decide (last ≤ e.born)) = false := by
          rw [← hall, m2.isEmpty, m2.all (fun k => Nat.ble last k)]
          simp [ble_dec]
        have hfil := m2.filter (fun k => !seenB seen k)
        have hleft : xs.toArray.filter (fun e => !seen.toArray.contains e.born) = (xs.filter fun e => !seenB seen e.born).toArray := by
          simp [seenB]
        split at he
        · rename_i hnil
          injection he with he
          subst he
          rw [hnil] at hfil
          cases hq : (xs.filter fun e => !seenB seen e.born) with
          | cons a b => rw [hq] at hfil; cases hfil
          | nil =>
            rw [hq] at hleft
            refine ⟨.tuple #[.bool false], ?_, .t _ _ (.cons (.b _) .nil)⟩
            simp only [Instr.next, Sem.run_bind, hg, Result.andThen_ok, Option.map_some, hgm]
            rw [if_neg (by rw [hall']; simp), hleft]
            simp [Question.forced]
        · rename_i e hone
          split at he
          case h_2 => cases he
          rename_i hlt
          have hlt := blt_lt hlt
          rw [T.putK_eq] at he
          injection he with he
          subst he
          rw [hone] at hfil
          cases hq : (xs.filter fun e => !seenB seen e.born) with
          | nil => rw [hq] at hfil; cases hfil
          | cons x rest =>
            rw [hq] at hfil hleft
            obtain ⟨ek, ev, eb⟩ := e
            cases hfil with
            | cons hk hv' hrest =>
              cases hrest
              rename_i xk xv
              obtain ⟨q1, q2⟩ := setHeap_upd (n := n) hr hb rfl (x := .mapIter (some (μ m).blk) since (seen ++ [eb]).toArray clock) (o' := .mit (some m) since (seen ++ [eb]) clock) ⟨h0, rfl, h2⟩
              have hst := run_setObj (P := P) (o' := .mapIter (some (μ m).blk) since (seen ++ [eb]).toArray clock) h1 (by intro c e f h; cases h)
              refine ⟨.tuple #[.bool true, xk, xv], _, S, μ, .inl ?_, .t _ _ (.cons (.b _) (.cons hk (.cons hv' .nil))), q1, q2⟩
              simp only at hlt
              simp only [Instr.next, Sem.run_bind, hg, Result.andThen_ok, Option.map_some, hgm]
              rw [if_neg (by rw [hall']; simp), hleft]
              have hge : ¬ (since ≤ eb) := by omega
              simp [Question.forced, hlt, hge]
              rw [hst]
              rfl
        · cases he
      · cases he
  · cases he
theorem getLast_back {l : List Nat} {k : Nat} (h : l.getLast? = some k) : l.toArray.back? = some k := by
  rw [List.back?_toArray]
  exact h
theorem eEntry_ok {H : T O} {it u : V} {y : Value} (he : eEntry H it = some u) (hr : RH G S μ H.at w) (hv : VR S μ it y) : ∃ z, (Instr.entry y).run P w = .ok z w ∧ VR S μ u z := by
  unfold eEntry at he
  split at he
  case h_2 => cases he
  rename_i b
  cases hv with
  | p _ _ hS =>
    split at he
    case h_2 => cases he
    rename_i m since seen stepped hb
    obtain ⟨h0, h1, h2⟩ := RH.mit hr hb
    have hg := run_getObj (P := P) h1 (by intro c e f h; cases h)
    rw [h0]
    split at he
    case h_2 => cases he
    rename_i st es clock hst hm
    obtain ⟨_, xs, m1, m2⟩ := RH.map hr hm
    have hgm := run_getObj_map (P := P) m1
    split at he
    case h_2 => cases he
    rename_i e hcl hf
    have hcl := Nat.eq_of_beq_eq_true hcl
    subst hcl
    injection he with he
    subst he
    obtain ⟨x, f1, f2, f3⟩ := m2.find (fun k => Nat.beq k st) hf
    refine ⟨.tuple #[x.key, x.val], ?_, .t _ _ (.cons f2 (.cons f3 .nil))⟩
    have hf' : xs.find? (fun e => e.born == st) = some x := by
      rw [← f1]
      congr 1
      funext e
      rw [beq_dec]
    simp only [Instr.entry, Sem.run_bind, hg, Result.andThen_ok, Option.map_some, getLast_back hst, hgm]
    simp [hf']
theorem eMapEntry_ok {H : T O} {t : TypeId} {m k : V} {r : Nx} {x y : Value} (he : eMapEntry P H n t m k = some r) (hr : RH G S μ H.at w) (hm : VR S μ m x) (hk : VR S μ k y) :
    OpOk P G S μ H.at (((Instr.mapEntry t x y).run P w).andThen fun v w => .ok (.value v) w) w n r := by
  unfold eMapEntry at he
  split at he
  case h_2 => cases he
  rename_i kt el b hu
  split at he
  case h_2 => cases he
  rename_i es clock hb
  cases hm
  obtain ⟨hS, xs, h1, hER⟩ := RH.map hr hb
  split at he
  · rename_i kv i hf
    obtain ⟨rfl, f1, f2⟩ := eFind_ok (w := w) hf hk hER
    split at he
    case h_2 => cases he
    rename_i e hi
    split at he
    case h_2 => cases he
    rename_i old hold
    split at he
    case h_2 => cases he
    rename_i k' hk'
    rw [T.putK_eq] at he
    injection he with he
    subst he
    obtain ⟨xe, x1, x2, x3, x4⟩ := hER.at i e hi
    have hox := toVal_vr hold x2
    obtain ⟨q1, q2⟩ := setHeap_upd (n := n) hr hb rfl (x := .map (xs.modify i fun e => { e with key := k' }).toArray clock) (o' := .map (es.modify i fun e => (ofVal k', e.2.1, e.2.2)) clock)
      ⟨_, rfl, hER.modify i fun e x _ hv hbn => ⟨.ofVal _, hv, hbn⟩⟩
    have hst := runP_ok _ hk' w
    refine ⟨.tuple #[xe.val, goInt e.2.2], _, S, μ, .inl ?_, .t _ _ (.cons x3 (.cons (.i _ _) .nil)), q1, q2⟩
    simp only [Instr.mapEntry, Sem.run_bind, run_underlying hu, Result.andThen_ok, run_getObj_map h1, f1]
    rw [f2]
    simp [x1, hox, hst, run_setObj_map h1, x4]
  · rename_i kv hf
    obtain ⟨rfl, f1, f2⟩ := eFind_ok (w := w) hf hk hER
    split at he
    case h_2 => cases he
    rename_i ti hti
    split at he
    case h_2 => cases he
    rename_i z hz
    rw [fN_eq, T.putK_eq] at he
    injection he with he
    subst he
    obtain ⟨q1, q2⟩ := setHeap_upd (n := n) hr hb rfl (x := .map (xs ++ [({ key := y, val := z, born := clock } : MapEntry)]).toArray (clock + 1)) (o' := .map (es ++ [(k, ofVal z, clock)]) (clock + 1))
      ⟨_, rfl, hER.append (.cons hk (.ofVal z) .nil)⟩
    have hzr : ∀ w : World, (zeroValue el).run P w = .ok z w := fun w => by simp [zeroValue, typeInfo, hti, hz]
    refine ⟨.tuple #[z, goInt clock], _, S, μ, .inl ?_, .t _ _ (.cons (.ofVal z) (.cons (.i _ _) .nil)), q1, q2⟩
    simp only [Instr.mapEntry, Sem.run_bind, run_underlying hu, Result.andThen_ok, run_getObj_map h1, f1]
    rw [f2]
    simp [hzr, run_setObj_map h1]
  · cases he
theorem eEntryStore_ok {H : T O} {t : TypeId} {m st v : V} {r : Nx} {x y z : Value} (he : eEntryStore H n m st v = some r) (hr : RH G S μ H.at w) (hm : VR S μ m x) (hs : VR S μ st y) (hv : VR S μ v z) :
    OpOk P G S μ H.at (((Instr.entryStore t x y z).run P w).andThen fun _ w => .ok .skip w) w n r := by
  unfold eEntryStore at he
  split at he
  case h_2 => cases he
  rename_i b kd s
  split at he
  case h_2 => cases he
  rename_i es clock hb
  split at he
  case h_2 => cases he
  rename_i i hi
  rw [T.putK_eq] at he
  injection he with he
  subst he
  cases hm
  obtain rfl := vr_int hs
  obtain ⟨hS, xs, h1, hER⟩ := RH.map hr hb
  obtain ⟨q1, q2⟩ := setHeap_upd (n := n) hr hb rfl (x := .map (xs.modify i fun e => { e with val := z }).toArray clock) (o' := .map (es.modify i fun e => (e.1, v, e.2.2)) clock)
    ⟨_, rfl, hER.modify i fun e x hk _ hbn => ⟨hk, hv, hbn⟩⟩
  have hidx : xs.findIdx? (fun e => (e.born : Int) == (s : Int)) = some i := by
    rw [← hi, hER.findIdx (fun k => Nat.beq k s)]
    congr 1
    funext e
    rw [beq_dec]
    rw [Bool.eq_iff_iff]
    simp
    omega
  refine ⟨undef, _, S, μ, .inr ⟨?_, rfl⟩, .t [] [] .nil, q1, q2⟩
  simp only [Instr.entryStore, Sem.run_bind, Result.andThen_ok, run_getObj_map h1]
  simp [asInt, asIntOf]
  rw [hidx]
  simp [run_setObj_map h1]
end
end Ev
end Go.Proofs.YtmlhijlcefogmaaGreatDoor
