/-
  Evaluation of closed runs, part H: maps with ground keys. No conditions; no program.
-/
import Derived.Test.YtmlhijlcefogmaaGreatDoorEvG
set_option linter.unusedVariables false
set_option linter.unusedSimpArgs false
namespace Go.Proofs.YtmlhijlcefogmaaGreatDoor
namespace Ev

noncomputable section
/-- A run that looks at no world, of any kind. -/
def runP {α : Type} (P : Program) (s : Sem α) : Option α :=
  Sem.rec (motive := fun _ => Option α) (fun a => some a)
    (fun _ _ _ _ => none) (fun _ _ _ _ _ => none) (fun _ _ _ => none) (fun _ _ _ => none) (fun _ _ _ _ => none) (fun _ _ _ => none) (fun _ _ _ => none) (fun _ _ _ _ => none)
    (fun q k ih => match q.forced with | true => ih 0 | false => none) (fun _ _ _ => none) (fun k ih => ih P) (fun _ _ ih => ih) (fun _ => none) s
/-- The keys of abstract entries, as entries. -/
def keyL (es : List (V × V × Nat)) : Option (List MapEntry) :=
  List.rec (motive := fun _ => Option (List MapEntry)) (some []) (fun e _ ih => match toVal e.1 with | none => none | some k => match ih with | none => none | some l => some ({ key := k, val := undef, born := 0 } :: l)) es
def eFind (P : Program) (em : Bool) (kt : TypeId) (k : V) (es : List (V × V × Nat)) : Option (Value × Option Nat) :=
  match toVal k, keyL es with
  | some kv, some L => match runP P (Instr.checkKey em 10000 kt kv), runP P (Instr.findKey kt kv L) with
    | some _, some r => some (kv, r.map (·.1))
    | _, _ => none
  | _, _ => none
def eLookup (P : Program) (H : T O) (t : TypeId) (m k : V) (ok : Bool) : Option V :=
  match P.underlying t with
  | some (.map kt el) => match (match m with | .m b => (match H.at b with | some (.map es _) => some es | _ => none) | .g (.map none) => some [] | _ => none) with
    | some es => match eFind P es.isEmpty kt k es with
      | some (_, some i) => match es[i]? with | some e => some (match ok with | true => .t [e.2.1, .b true] | false => e.2.1) | none => none
      | some (_, none) => match P.info? el with
        | some i => match i.zero with | some z => some (match ok with | true => .t [ofVal z, .b false] | false => ofVal z) | none => none
        | none => none
      | none => none
    | none => none
  | _ => none
def modL (es : List (V × V × Nat)) (i : Nat) (k v : V) : List (V × V × Nat) := es.modify i fun e => (k, v, e.2.2)
/-- The key of the i-th entry. -/
def keyAt (es : List (V × V × Nat)) (i : Nat) : Option Value := match es[i]? with | some e => toVal e.1 | none => none
def eUpdate (P : Program) (H : T O) (t : TypeId) (m k v : V) : Option (T O) :=
  match P.underlying t, m with
  | some (.map kt _), .m b => match H.at b with
    | some (.map es clock) => match eFind P false kt k es with
      | some (kv, some i) => match keyAt es i with
        | some old => match runP P (Instr.keyThatStays old kv) with
          | some k' => H.putK b (some (.map (modL es i (ofVal k') v) clock)) some
          | none => none
        | none => none
      | some (_, none) => fN (clock + 1) fun c => H.putK b (some (.map (es ++ [(k, v, clock)]) c)) some
      | none => none
    | _ => none
  | _, _ => none
end

theorem runP_ok {α : Type} {P : Program} : ∀ (s : Sem α) {a : α}, runP P s = some a → ∀ w, s.run P w = .ok a w := by
  intro s
  induction s with
  | pure a => intro b h w; injection h with h; rw [h]; rfl
  | choose q k ih =>
    intro b h w
    simp only [runP] at h
    cases hq : q.forced with
    | false => simp [hq] at h
    | true =>
      simp only [hq] at h
      simp only [Sem.run, hq, if_true]
      exact ih 0 h w
  | program k ih => intro b h w; exact ih P h w
  | mark m k ih => intro b h w; exact ih h w
  | _ => intro b h w; simp [runP] at h

section
variable {P : Program} {G : Nat} {S : Nat → Prop} {μ : Nat → Loc} {w : World} {n : Nat}
theorem findNow_same {kd : TypeDesc} {k : Value} : ∀ {es L : List MapEntry} (i : Nat), es.map (·.key) = L.map (·.key) →
    Instr.findNow kd k es i = (Instr.findNow kd k L i).map fun o => o.bind fun x => (es[x.1 - i]?).map fun e => (x.1, e.val) := by
  intro es
  induction es with
  | nil => intro L i h; cases L with | nil => rfl | cons a b => simp at h
  | cons e es ih =>
    intro L i h
    cases L with
    | nil => simp at h
    | cons a L =>
      simp only [List.map_cons, List.cons.injEq] at h
      simp only [Instr.findNow, h.1]
      cases hs : Instr.sameNow kd k a.key with
      | none => rfl
      | some b =>
        cases b with
        | true => simp
        | false =>
          simp only
          rw [ih (i + 1) h.2]
          have hge : ∀ (L : List MapEntry) (i : Nat) (j : Nat) (v : Value), Instr.findNow kd k L i = some (some (j, v)) → i ≤ j := by
            intro L
            induction L with
            | nil => intro i j v h; simp [Instr.findNow] at h
            | cons c L ih2 =>
              intro i j v h
              simp only [Instr.findNow] at h
              split at h
              · simp at h; omega
              · have := ih2 _ _ _ h; omega
              · cases h
          cases hf : Instr.findNow kd k L (i + 1) with
          | none => rfl
          | some o =>
            cases o with
            | none => rfl
            | some x =>
              have := hge L (i + 1) x.1 x.2 hf
              simp only [Option.map_some, Option.bind_some, Option.some.injEq]
              rw [show x.1 - i = (x.1 - (i + 1)) + 1 by omega, List.getElem?_cons_succ]
theorem findAsking_same {kt : TypeId} {k : Value} : ∀ {es L : List MapEntry} (i : Nat) (w : World), es.map (·.key) = L.map (·.key) →
    (Instr.findAsking kt k es i).run P w = ((Instr.findAsking kt k L i).run P w).andThen fun o w => .ok (o.bind fun x => (es[x.1 - i]?).map fun e => (x.1, e.val)) w := by
  intro es
  induction es with
  | nil => intro L i w h; cases L with | nil => rfl | cons a b => simp at h
  | cons e es ih =>
    intro L i w h
    cases L with
    | nil => simp at h
    | cons a L =>
      simp only [List.map_cons, List.cons.injEq] at h
      simp only [Instr.findAsking, h.1, Sem.run_bind]
      cases (Op.equal kt k a.key).run P w with
      | halt x w' => rfl
      | ok b w' =>
        simp only [Result.andThen_ok]
        cases b with
        | true => simp
        | false =>
          simp only [Bool.false_eq_true, if_false]
          rw [ih (i + 1) w' h.2]
          have hge : ∀ (L : List MapEntry) (i : Nat) (w w' : World) (j : Nat) (v : Value), (Instr.findAsking kt k L i).run P w = .ok (some (j, v)) w' → i ≤ j := by
            intro L
            induction L with
            | nil => intro i w w' j v h; simp [Instr.findAsking] at h
            | cons c L ih2 =>
              intro i w w' j v h
              simp only [Instr.findAsking, Sem.run_bind] at h
              cases hq : (Op.equal kt k c.key).run P w with
              | halt x w2 => rw [hq] at h; simp at h
              | ok b w2 =>
                rw [hq] at h
                simp only [Result.andThen_ok] at h
                cases b with
                | true => simp at h; omega
                | false => simp only [Bool.false_eq_true, if_false] at h; have := ih2 _ _ _ _ _ h; omega
          cases hf : (Instr.findAsking kt k L (i + 1)).run P w' with
          | halt x w2 => rfl
          | ok o w2 =>
            cases o with
            | none => rfl
            | some x =>
              have := hge L (i + 1) w' w2 x.1 x.2 hf
              simp only [Result.andThen_ok, Option.bind_some]
              rw [show x.1 - i = (x.1 - (i + 1)) + 1 by omega, List.getElem?_cons_succ]
theorem findKey_same {kt : TypeId} {k : Value} {es L : List MapEntry} (h : es.map (·.key) = L.map (·.key)) {r : Option (Nat × Value)} (hL : (Instr.findKey kt k L).run P w = .ok r w) :
    (Instr.findKey kt k es).run P w = .ok (r.bind fun x => (es[x.1]?).map fun e => (x.1, e.val)) w := by
  unfold Instr.findKey at hL ⊢
  simp only [Sem.run_bind] at hL ⊢
  cases hu : (underlying kt).run P w with
  | halt x w' => rw [hu] at hL; simp at hL
  | ok d w' =>
    rw [hu] at hL
    simp only [Result.andThen_ok] at hL ⊢
    rw [findNow_same 0 h]
    cases hf : Instr.findNow d k L 0 with
    | some o =>
      simp only [hf, Sem.run_pure, Result.ok.injEq] at hL
      simp only [Option.map_some, Sem.run_pure, Nat.sub_zero]
      rw [hL.1, hL.2]
    | none =>
      simp only [hf] at hL
      simp only [Option.map_none]
      rw [findAsking_same 0 w' h, hL]
      simp
theorem keyL_ok : ∀ {es : List (V × V × Nat)} {L : List MapEntry} {xs : List MapEntry}, keyL es = some L → ER S μ es xs → xs.map (·.key) = L.map (·.key) := by
  intro es
  induction es with
  | nil => intro L xs h r; injection h with h; subst h; cases r; rfl
  | cons e es ih =>
    intro L xs h r
    cases r with
    | cons hk hv r =>
      rename_i k v m x y xs
      have h' : (match toVal k with | none => none | some k => match keyL es with | none => none | some l => some (({ key := k, val := undef, born := 0 } : MapEntry) :: l)) = some L := h
      cases h1 : toVal k with
      | none => simp [h1] at h'
      | some y =>
        cases h2 : keyL es with
        | none => simp [h1, h2] at h'
        | some l =>
          simp [h1, h2] at h'
          subst h'
          simp [toVal_vr h1 hk, ih h2 r]
theorem ER.length {es : List (V × V × Nat)} {xs : List MapEntry} (h : ER S μ es xs) : xs.length = es.length := by
  induction h with
  | nil => rfl
  | cons _ _ _ ih => simp [ih]
theorem ER.at {es : List (V × V × Nat)} {xs : List MapEntry} (h : ER S μ es xs) : ∀ (i : Nat) (e : V × V × Nat), es[i]? = some e → ∃ x, xs[i]? = some x ∧ VR S μ e.1 x.key ∧ VR S μ e.2.1 x.val ∧ x.born = e.2.2 := by
  induction h with
  | nil => intro i e h; simp at h
  | cons hk hv _ ih =>
    intro i e he
    cases i with
    | zero => simp at he; subst he; exact ⟨_, List.getElem?_cons_zero, hk, hv, rfl⟩
    | succ i => simp at he; obtain ⟨x, hx, hr⟩ := ih i e he; exact ⟨x, by simpa using hx, hr⟩
theorem ER.append {es fs : List (V × V × Nat)} {xs ys : List MapEntry} (h : ER S μ es xs) (h' : ER S μ fs ys) : ER S μ (es ++ fs) (xs ++ ys) := by
  induction h with
  | nil => exact h'
  | cons hk hv _ ih => exact .cons hk hv ih
theorem ER.modify {es : List (V × V × Nat)} {xs : List MapEntry} (h : ER S μ es xs) (i : Nat) {f : V × V × Nat → V × V × Nat} {g : MapEntry → MapEntry}
    (hf : ∀ e x, VR S μ e.1 x.key → VR S μ e.2.1 x.val → x.born = e.2.2 → VR S μ (f e).1 (g x).key ∧ VR S μ (f e).2.1 (g x).val ∧ (g x).born = (f e).2.2) : ER S μ (es.modify i f) (xs.modify i g) := by
  induction h generalizing i with
  | nil => cases i <;> exact .nil
  | cons hk hv hr ih =>
    rename_i k v m x y es xs
    cases i with
    | zero =>
      obtain ⟨a, b, c⟩ := hf (k, v, m) { key := x, val := y, born := m } hk hv rfl
      simp only [List.modify_zero_cons]
      generalize hfe : f (k, v, m) = fe at a b c
      obtain ⟨k', v', m'⟩ := fe
      generalize hge : g { key := x, val := y, born := m } = ge at a b c
      obtain ⟨x', y', b'⟩ := ge
      simp only at c
      subst c
      exact .cons a b hr
    | succ i =>
      simp only [List.modify_succ_cons]
      exact .cons hk hv (ih i)
theorem eFind_ok {em : Bool} {kt : TypeId} {k : V} {x kv : Value} {es : List (V × V × Nat)} {xs : List MapEntry} {r : Option Nat} (he : eFind P em kt k es = some (kv, r)) (hk : VR S μ k x) (hr : ER S μ es xs) :
    x = kv ∧ (Instr.checkKey em 10000 kt kv).run P w = .ok () w ∧ (Instr.findKey kt kv xs).run P w = .ok (r.bind fun i => (xs[i]?).map fun e => (i, e.val)) w := by
  unfold eFind at he
  split at he
  · rename_i kv' L h1 h2
    split at he
    · rename_i u r' h3 h4
      injection he with he
      injection he with e1 e2
      subst e1 e2
      refine ⟨toVal_vr h1 hk, ?_, ?_⟩
      · have := runP_ok _ h3 w; exact this
      · have := findKey_same (keyL_ok h2 hr) (runP_ok _ h4 w)
        rw [this]
        cases r' <;> rfl
    · cases he
  · cases he
theorem RH.map {h : Nat → Option O} (r : RH G S μ h w) {b : Nat} {es : List (V × V × Nat)} {clock : Nat} (hb : h b = some (.map es clock)) : S b ∧ ∃ xs, w.heap[(μ b).blk]? = some (.map xs.toArray clock) ∧ ER S μ es xs := by
  obtain ⟨hS, x, hx, xs, rfl, h2⟩ := r.ok b _ hb
  exact ⟨hS, xs, hx, h2⟩
theorem run_getObj_map {b : Nat} {es : Array MapEntry} {clock : Nat} (h : w.heap[b]? = some (.map es clock)) : (getObj b).run P w = .ok (.map es clock) w := by
  simp [getObj, Sem.run, h]
theorem run_setObj_map {b : Nat} {es : Array MapEntry} {clock : Nat} (h : w.heap[b]? = some (.map es clock)) (o : Obj) : (setObj b o).run P w = .ok () { w with heap := w.heap.setIfInBounds b o } := by
  simp [setObj, Sem.run, h]
theorem eLookup_ok {H : T O} {t : TypeId} {m k u : V} {ok : Bool} {x y : Value} (he : eLookup P H t m k ok = some u) (r : RH G S μ H.at w) (hm : VR S μ m x) (hk : VR S μ k y) : ∃ z, (Instr.lookup t x y ok).run P w = .ok z w ∧ VR S μ u z := by
  unfold eLookup at he
  split at he
  case h_2 => cases he
  rename_i kt el hu
  split at he
  case h_2 => cases he
  rename_i es hes
  have hxs : ∃ xs : List MapEntry, ER S μ es xs ∧ ((x = .map none ∧ xs = []) ∨ ∃ blk clock, x = .map (some blk) ∧ w.heap[blk]? = some (.map xs.toArray clock)) := by
    split at hes
    · rename_i b
      split at hes
      · rename_i es' clock hb
        injection hes with hes
        subst hes
        cases hm
        obtain ⟨_, xs, h1, h2⟩ := RH.map r hb
        exact ⟨xs, h2, .inr ⟨_, _, rfl, h1⟩⟩
      · cases hes
    · injection hes with hes
      subst hes
      cases hm
      exact ⟨[], .nil, .inl ⟨rfl, rfl⟩⟩
    · cases hes
  obtain ⟨xs, hER, hx⟩ := hxs
  have hemp : xs.isEmpty = es.isEmpty := by
    have := hER.length
    cases es <;> cases xs <;> simp_all
  have hall : (Instr.lookup t x y ok).run P w = ((Instr.checkKey es.isEmpty 10000 kt y).run P w).andThen fun _ w => ((Instr.findKey kt y xs).run P w).andThen fun o w =>
      (match o with | some (_, v) => (pure (if ok then .tuple #[v, .bool true] else v) : Sem Value) | none => do let z ← zeroValue el; pure (if ok then .tuple #[z, .bool false] else z)).run P w := by
    rcases hx with ⟨rfl, rfl⟩ | ⟨blk, clock, rfl, h1⟩
    · rw [← hemp]
      simp only [Instr.lookup, Sem.run_bind, run_underlying hu, Result.andThen_ok, Sem.run_pure]
      congr 1
    · rw [← hemp]
      simp only [Instr.lookup, Sem.run_bind, run_underlying hu, Result.andThen_ok, Sem.run_pure, run_getObj_map h1]
      have : xs.toArray.isEmpty = xs.isEmpty := by simp
      rw [this]
      congr 1
  split at he
  · rename_i kv i hf
    obtain ⟨rfl, f1, f2⟩ := eFind_ok (w := w) hf hk hER
    split at he
    · rename_i e hi
      injection he with he
      obtain ⟨xe, x1, x2, x3, x4⟩ := hER.at i e hi
      have key : (Instr.lookup t x y ok).run P w = .ok (if ok then .tuple #[xe.val, .bool true] else xe.val) w := by
        rw [hall, f1, Result.andThen_ok, f2, Result.andThen_ok]
        simp [x1]
      refine ⟨_, key, ?_⟩
      subst he
      cases ok with
      | false => exact x3
      | true => exact .t _ _ (.cons x3 (.cons (.b true) .nil))
    · cases he
  · rename_i kv hf
    obtain ⟨rfl, f1, f2⟩ := eFind_ok (w := w) hf hk hER
    split at he
    · rename_i i hi
      split at he
      · rename_i z hz
        injection he with he
        have hzr : (zeroValue el).run P w = .ok z w := by simp [zeroValue, typeInfo, hi, hz]
        have key : (Instr.lookup t x y ok).run P w = .ok (if ok then .tuple #[z, .bool false] else z) w := by
          rw [hall, f1, Result.andThen_ok, f2, Result.andThen_ok]
          simp [hzr]
        refine ⟨_, key, ?_⟩
        subst he
        cases ok with
        | false => exact .ofVal z
        | true => exact .t _ _ (.cons (.ofVal z) (.cons (.b false) .nil))
      · cases he
    · cases he
  · cases he
theorem setHeap_upd {H : T O} (r : RH G S μ H.at w) {b : Nat} {o o' : O} {x : Obj} (hb : H.at b = some o) (hro : o.ro = false) (ho : OR S μ (μ b) x o') :
    RH G S μ (H.put b (some o')).at { w with heap := w.heap.setIfInBounds (μ b).blk x } ∧ Go S μ H.at w n S μ (H.put b (some o')).at { w with heap := w.heap.setIfInBounds (μ b).blk x } n := by
  obtain ⟨_, y, hy, _⟩ := r.ok b o hb
  have hlt := (Array.getElem?_eq_some_iff.1 hy).1
  rw [at_put1]
  exact r.upd hb hro x o' ho rfl rfl rfl (by simp) (by simp [Array.getElem?_setIfInBounds_self, hlt]) (fun k hk hne => by simp [Array.getElem?_setIfInBounds_ne (Ne.symm hne)])
theorem eUpdate_ok {H H' : T O} {t : TypeId} {m k v : V} {x y z : Value} (he : eUpdate P H t m k v = some H') (r : RH G S μ H.at w) (hm : VR S μ m x) (hk : VR S μ k y) (hv : VR S μ v z) :
    ∃ w', (Instr.mapUpdate t x y z).run P w = .ok () w' ∧ RH G S μ H'.at w' ∧ Go S μ H.at w n S μ H'.at w' n := by
  unfold eUpdate at he
  split at he
  case h_2 => cases he
  rename_i kt el b hu
  split at he
  case h_2 => cases he
  rename_i es clock hb
  cases hm
  obtain ⟨hS, xs, h1, hER⟩ := RH.map r hb
  split at he
  · rename_i kv i hf
    obtain ⟨rfl, f1, f2⟩ := eFind_ok (w := w) hf hk hER
    split at he
    · rename_i old hold
      split at he
      · rename_i k' hk'
        rw [T.putK_eq] at he
        injection he with he
        subst he
        unfold keyAt at hold
        split at hold
        case h_2 => cases hold
        rename_i e hi
        obtain ⟨xe, x1, x2, x3, x4⟩ := hER.at i e hi
        have hox := toVal_vr hold x2
        obtain ⟨q1, q2⟩ := setHeap_upd (n := n) r hb rfl (x := .map (xs.modify i fun e => { e with key := k', val := z }).toArray clock) (o' := .map (modL es i (ofVal k') v) clock)
          ⟨_, rfl, hER.modify i fun e x _ _ hbn => ⟨.ofVal _, hv, hbn⟩⟩
        refine ⟨_, ?_, q1, q2⟩
        have hst := runP_ok _ hk' w
        simp only [Instr.mapUpdate, Sem.run_bind, run_underlying hu, Result.andThen_ok, run_getObj_map h1, f1]
        rw [f2]
        simp [x1, hox, hst, run_setObj_map h1]
      · cases he
    · cases he
  · rename_i kv hf
    obtain ⟨rfl, f1, f2⟩ := eFind_ok (w := w) hf hk hER
    rw [fN_eq, T.putK_eq] at he
    injection he with he
    subst he
    obtain ⟨q1, q2⟩ := setHeap_upd (n := n) r hb rfl (x := .map (xs ++ [({ key := y, val := z, born := clock } : MapEntry)]).toArray (clock + 1)) (o' := .map (es ++ [(k, v, clock)]) (clock + 1))
      ⟨_, rfl, hER.append (.cons hk hv .nil)⟩
    refine ⟨_, ?_, q1, q2⟩
    simp only [Instr.mapUpdate, Sem.run_bind, run_underlying hu, Result.andThen_ok, run_getObj_map h1, f1]
    rw [f2]
    simp [run_setObj_map h1]
  · cases he
end
end Ev
end Go.Proofs.YtmlhijlcefogmaaGreatDoor
