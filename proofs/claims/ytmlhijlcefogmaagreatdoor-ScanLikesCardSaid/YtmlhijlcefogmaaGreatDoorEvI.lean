/-
  Evaluation of closed runs, part I: calls, lengths, copies, strings of bytes, new maps. No conditions; no program.
-/
import Derived.Test.YtmlhijlcefogmaaGreatDoorEvH
set_option linter.unusedVariables false
set_option linter.unusedSimpArgs false
namespace Go.Proofs.YtmlhijlcefogmaaGreatDoor
namespace Ev

noncomputable section
def calleeOf (P : Program) (v : V) (args : List V) : Option Nx :=
  match v with
  | .f (.func f) caps => match P.funcs[f]? with
    | some fn => match fn.body.isSome && !(fn.name == "runtime.NumGoroutine") with | true => some (.call f (appL args caps)) | false => none
    | none => none
  | .y l => some (.rnd l args)
  | _ => none
def eDefer (v : V) (args : List V) : Option Nx :=
  match v with
  | .f fn caps => some (.dfr (.fn fn caps args))
  | _ => none
def eLen (P : Program) (H : T O) (t : TypeId) (x : V) : Option V :=
  match P.underlying t, x with
  | some (.slice _), .s _ _ len _ _ _ => some (.i .i64 (.ofNat len))
  | some (.slice _), .e => some (.i .i64 0)
  | some (.map _ _), .m b => match H.at b with | some (.map es _) => fN es.length fun k => some (.i .i64 (.ofNat k)) | _ => none
  | some (.array n _), _ => some (.i .i64 (.ofNat n))
  | some (.pointer arr), _ => match P.underlying arr with | some (.array n _) => some (.i .i64 (.ofNat n)) | _ => none
  | _, _ => none
def eCap (P : Program) (t : TypeId) (x : V) : Option V :=
  match P.underlying t, x with
  | some (.slice _), .s _ _ _ cap _ false => some (.i .i64 (.ofNat cap))
  | _, _ => none
/-- How many elements there are to copy; the first k of them. -/
def srcLen (x : V) : Option Nat := match x with | .s _ _ len _ _ _ => some len | .str l => some l.length | .g (.slice none 0 _) => some 0 | .e => some 0 | _ => none
def srcTake (H : T O) (z k : Nat) (x : V) : Option (List V) :=
  match x with
  | .s b o _ _ z' _ => match Nat.beq z z', H.at b with
    | true, some (.row cs _ _ _ _) => getN cs o (k * z)
    | _, _ => none
  | .str l => match Nat.beq z 1 with | true => some (byteVs (l.take k)) | false => none
  | .g (.slice none 0 _) => some []
  | .e => some []
  | _ => none
def eCopy (P : Program) (H : T O) (n : Nat) (t : TypeId) (d x : V) : Option Nx :=
  match P.underlying t with
  | some (.slice e) => match szOf P e, srcLen x with
    | some z, some m => match d with
      | .s b o len _ z' _ => fN (Nat.min m len) fun k => match Nat.beq z z', srcTake H z k x with
        | true, some vs => match putRow H b o vs with | some H => some (.val (.i .i64 (.ofNat k)) H n) | none => none
        | _, _ => none
      | .e => match x with | .s _ _ _ _ _ _ => some (.val (.i .i64 0) H n) | .e => some (.val (.i .i64 0) H n) | _ => none
      | _ => none
    | _, _ => none
  | _ => none
/-- Bytes out of cells. -/
def unB1 (v : V) (ih : Option (List Nat)) : Option (List Nat) :=
  match v with
  | .i .u8 (.ofNat x) => (match Nat.blt x 256 with | true => (match ih with | some l => fN x fun x => some (x :: l) | none => none) | false => none)
  | _ => none
def unB (vs : List V) : Option (List Nat) := List.rec (motive := fun _ => Option (List Nat)) (some []) (fun v _ ih => unB1 v ih) vs
def eB2S (P : Program) (H : T O) (src dst : TypeId) (x : V) : Option V :=
  match P.underlying src, P.underlying dst, x with
  | some (.slice e), some .string, .s b o len _ z _ => match P.underlying e, H.at b with
    | some (.int .u8), some (.row cs _ _ _ _) => match getN cs o len with
      | some vs => match unB vs with | some l => some (.str l) | none => none
      | none => none
    | _, _ => none
  | _, _, _ => none
def eS2B (P : Program) (H : T O) (n : Nat) (src dst : TypeId) (x : V) : Option Nx :=
  match P.underlying src, P.underlying dst, x with
  | some .string, some (.slice e), .str l => match P.underlying e, Nat.ble l.length (2 ^ 40) with
    | some (.int .u8), true => fN l.length fun k => layRow H n (byteVs l) e ⟨0, true, false⟩ (.s n 0 k k 1 true)
    | _, _ => none
  | _, _, _ => none
def eMakeMap (P : Program) (H : T O) (n : Nat) (t : TypeId) (r : Option V) : Option Nx :=
  match r with
  | none => H.putK n (some (.map [] 0)) fun H => some (.val (.m n) H (n + 1))
  | some (.i _ _) => match P.underlying t with | some (.map _ _) => H.putK n (some (.map [] 0)) fun H => some (.val (.m n) H (n + 1)) | _ => none
  | _ => none
end

section
variable {P : Program} {G : Nat} {S : Nat → Prop} {μ : Nat → Loc} {w : World} {n : Nat}
theorem evs_cons (F : T V) (x : Operand) (l : List Operand) : evs F (x :: l) = (ev F x).bind fun v => (evs F l).map fun vs => v :: vs := by
  show Option.rec (motive := fun _ => Option (List V)) _ _ (ev F x) = _
  cases ev F x with
  | none => rfl
  | some v => show Option.rec (motive := fun _ => Option (List V)) _ _ (evs F l) = _; cases evs F l <;> rfl
theorem evs_ok {F : T V} {ρ : Operand → Value} : ∀ {l : List Operand} {vs : List V}, evs F l = some vs → ρOk S μ F ρ l → VRs S μ vs (l.map ρ) := by
  intro l
  induction l with
  | nil => intro vs h _; injection h with h; subst h; exact .nil
  | cons x l ih =>
    intro vs h hρ
    rw [evs_cons] at h
    cases h1 : ev F x with
    | none => simp [h1] at h
    | some v =>
      cases h2 : evs F l with
      | none => simp [h1, h2] at h
      | some vs' =>
        simp [h1, h2] at h
        subst h
        exact .cons (hρ x (by simp) v h1) (ih h2 fun y hy => hρ y (by simp [hy]))
theorem calleeOf_ok {h : Nat → Option O} {v : V} {args : List V} {r : Nx} {x : Value} {xs : Array Value} (he : calleeOf P v args = some r) (hv : VR S μ v x) (ha : VRs S μ args xs.toList) :
    OpOk P G S μ h ((do let d ← Deferred.ofValue x xs; invoke d.target d.args).run P w) w n r := by
  unfold calleeOf at he
  split at he
  · rename_i f caps
    split at he
    · rename_i fn hf
      split at he
      · rename_i hc
        injection he with he
        subst he
        simp only [Bool.and_eq_true, Bool.not_eq_true'] at hc
        cases hv with
        | f _ _ cs hcs =>
          refine ⟨xs ++ cs.toArray, ?_, by rw [appL_eq]; simpa using ha.append hcs, fn, hf⟩
          have hb : ¬ fn.body = none := fun e => by rw [e] at hc; simp at hc
          have hname : ¬ fn.name = "runtime.NumGoroutine" := by simpa using hc.2
          simp [Deferred.ofValue, invoke, callFunc, hf, hname, hb]
      · cases he
    · cases he
  · rename_i l
    injection he with he
    subst he
    cases hv with
    | y _ hl =>
      refine ⟨hl, xs, ?_, ha⟩
      simp [Deferred.ofValue, invoke]
  · cases he
theorem eDefer_ok {h : Nat → Option O} {v : V} {args : List V} {r : Nx} {x : Value} {xs : Array Value} (he : eDefer v args = some r) (hv : VR S μ v x) (ha : VRs S μ args xs.toList) :
    OpOk P G S μ h ((do pure (Next.defer (← Deferred.ofValue x xs))).run P w) w n r := by
  unfold eDefer at he
  split at he
  · injection he with he
    subst he
    cases hv with
    | f fn caps cs hcs => exact ⟨_, by simp [Deferred.ofValue]; rfl, cs.toArray, #[] ++ xs, by simp, by simpa using hcs, by simpa using ha⟩
  · cases he
theorem eLen_ok {H : T O} {t ty : TypeId} {x u : V} {y : Value} (he : eLen P H t x = some u) (r : RH G S μ H.at w) (hv : VR S μ x y) : ∃ z, (Builtin.len_ #[t] ty #[y]).run P w = .ok z w ∧ VR S μ u z := by
  unfold eLen at he
  split at he
  · rename_i hu
    injection he with he
    subst he
    cases hv
    exact ⟨_, by simp [Builtin.len_, run_underlying hu]; rfl, .i _ _⟩
  · rename_i hu
    injection he with he
    subst he
    cases hv
    exact ⟨_, by simp [Builtin.len_, run_underlying hu]; rfl, .i _ _⟩
  · rename_i hu
    split at he
    · rename_i es clock hb
      rw [fN_eq] at he
      injection he with he
      subst he
      cases hv
      obtain ⟨_, xs, h1, h2⟩ := RH.map r hb
      exact ⟨_, by simp [Builtin.len_, run_underlying hu, run_getObj_map h1, h2.length]; rfl, .i _ _⟩
    · cases he
  · rename_i k e hu
    injection he with he
    subst he
    exact ⟨_, by simp [Builtin.len_, run_underlying hu]; rfl, .i _ _⟩
  · rename_i arr hu
    split at he
    · rename_i k e hu2
      injection he with he
      subst he
      exact ⟨_, by simp [Builtin.len_, run_underlying hu, run_underlying hu2]; rfl, .i _ _⟩
    · cases he
  · cases he
theorem eCap_ok {t ty : TypeId} {x u : V} {y : Value} (he : eCap P t x = some u) (hv : VR S μ x y) : ∃ z, (Builtin.cap_ #[t] ty #[y]).run P w = .ok z w ∧ VR S μ u z := by
  unfold eCap at he
  split at he
  · rename_i hu
    injection he with he
    subst he
    cases hv with
    | s _ _ _ _ _ _ cap' _ _ _ hop => exact ⟨_, by simp [Builtin.cap_, run_underlying hu, hop rfl]; rfl, .i _ _⟩
  · cases he
theorem take_map_bytes (l : List Nat) (k : Nat) : (bytesOf l).extract 0 k = bytesOf (l.take k) := by
  unfold bytesOf
  apply ByteArray.ext
  simp [ByteArray.data_extract, List.map_take]
theorem firstCells_zero (w : World) (z : Nat) (A : Option Addr) (k c : Nat) : (Builtin.firstCells z 0 (.slice A k c)).run P w = .ok #[] w := by
  cases A <;> simp [Builtin.firstCells, loadCells, loadCellsFrom]
theorem eCopy_ok {H : T O} {t tx ty : TypeId} {d x : V} {r : Nx} {dv xv : Value} (he : eCopy P H n t d x = some r) (hr : RH G S μ H.at w) (hd : VR S μ d dv) (hx : VR S μ x xv) :
    OpOk P G S μ H.at (((Builtin.copy_ #[t, tx] ty #[dv, xv]).run P w).andThen fun v w => .ok (.value v) w) w n r := by
  unfold eCopy at he
  split at he
  case h_2 => cases he
  rename_i e hu
  split at he
  case h_2 => cases he
  rename_i z m hz hm
  split at he
  case h_3 => cases he
  case h_2 =>
    cases hd with
    | e A c =>
      have key : ∀ k A' c', xv = .slice A' k c' → OpOk P G S μ H.at (((Builtin.copy_ #[t, tx] ty #[.slice A 0 c, xv]).run P w).andThen fun v w => .ok (.value v) w) w n (.val (.i .i64 0) H n) := by
        intro k A' c' e
        subst e
        refine ⟨_, w, S, μ, .inl ?_, .i .i64 0, hr, Go.refl hr⟩
        simp [Builtin.copy_, run_underlying hu, Builtin.lenOf, szOf_run hz w, firstCells_zero]
        cases A <;> simp [Go.storeCells] <;> rfl
      split at he
      · injection he with he
        subst he
        cases hx with
        | s => exact key _ _ _ rfl
      · injection he with he
        subst he
        cases hx with
        | e => exact key _ _ _ rfl
      · cases he
  rename_i b o len cap z' op
  rw [fN_eq] at he
  split at he
  case h_2 => cases he
  rename_i vs hzz hvs
  have hzz := Nat.eq_of_beq_eq_true hzz
  subst hzz
  split at he
  case h_2 => cases he
  rename_i H' hput
  injection he with he
  subst he
  have hlen : ∀ w : World, (Builtin.lenOf xv).run P w = .ok m w := by
    intro w
    unfold srcLen at hm
    split at hm <;> first | (injection hm with hm; subst hm) | cases hm
    · cases hx; rfl
    · cases hx; simp [Builtin.lenOf, bytesOf_size]
    · cases hx; rfl
    · cases hx; rfl
  have hfc : ∃ xs, VRs S μ vs xs ∧ (Builtin.firstCells z (Nat.min m len) xv).run P w = .ok xs.toArray w := by
    unfold srcTake at hvs
    split at hvs
    · rename_i b' o' len' cap' z' op'
      split at hvs
      · rename_i cs rl el fz ro hzz hb
        have hzz := Nat.eq_of_beq_eq_true hzz
        subst hzz
        cases hx
        obtain ⟨xs, h1, h2, h3, _⟩ := RH.range hr hb hvs
        exact ⟨xs, h2, run_firstCells_some w z (Nat.min m len) _ _ _ xs h1 (fun j u hj => by rw [Addr.add_none]; exact h3 j u hj)⟩
      · cases hvs
    · rename_i l
      split at hvs
      · rename_i hz1
        have hz1 := Nat.eq_of_beq_eq_true hz1
        subst hz1
        injection hvs with hvs
        subst hvs
        cases hx with
        | str _ hl =>
          refine ⟨_, byteVs_vr (fun y hy => hl y (List.mem_of_mem_take hy)), ?_⟩
          have hm' : Nat.min m len ≤ l.length := by
            simp only [srcLen, Option.some.injEq] at hm
            subst hm
            exact Nat.min_le_left _ _
          have hl2 : (l.take (Nat.min m len)).length = Nat.min m len := by rw [List.length_take]; exact Nat.min_eq_left hm'
          have := firstCells_string (P := P) (bytesOf (l.take (Nat.min m len))) w
          rw [bytesOf_size, hl2] at this
          simp only [Builtin.firstCells] at this ⊢
          rw [take_map_bytes] at this ⊢
          rw [List.take_take, Nat.min_self] at this
          exact this
      · cases hvs
    · injection hvs with hvs
      subst hvs
      cases hx
      exact ⟨[], .nil, run_firstCells_none w _ _ _ _⟩
    · injection hvs with hvs
      subst hvs
      cases hx with
      | e A c =>
        have hm0 : m = 0 := by injection hm with hm; exact hm.symm
        subst hm0
        exact ⟨[], .nil, by rw [show Nat.min 0 len = 0 from Nat.zero_min len]; exact firstCells_zero w z A 0 c⟩
    · cases hvs
  obtain ⟨xs, h1, h2⟩ := hfc
  cases hd with
  | s _ _ _ _ _ _ cap' hS hl hc hop hs =>
    obtain ⟨k1, k2, k3, k4⟩ := putRow_ok (n := n) hput hr h1
    have hst := run_storeCells_cells (P := P) (μ b).blk ((μ b).sh + o) xs 0 w (fun j hj => by simpa using (k1 j hj).1) (fun j hj => by simpa using (k1 j hj).2) k2
    simp only [Nat.add_zero] at hst
    refine ⟨_, _, S, μ, .inl ?_, .i .i64 (.ofNat (Nat.min m len)), k3, k4⟩
    simp [Builtin.copy_, run_underlying hu, hlen, szOf_run hz w, h2, hst]
    rfl
theorem unB_ok : ∀ {vs : List V} {l : List Nat} {xs : List Value}, unB vs = some l → VRs S μ vs xs → xs = l.map (fun x => Value.int .u8 (Int.ofNat x)) ∧ ∀ x ∈ l, x < 256 := by
  intro vs
  induction vs with
  | nil => intro l xs h r; injection h with h; subst h; cases r; exact ⟨rfl, fun x hx => by cases hx⟩
  | cons v vs ih =>
    intro l xs h r
    cases r with
    | cons hv hs =>
      have h' : unB1 v (unB vs) = some l := h
      unfold unB1 at h'
      split at h'
      · rename_i x
        split at h'
        · rename_i hlt
          split at h'
          · rename_i l' hl'
            rw [fN_eq] at h'
            injection h' with h'
            subst h'
            obtain ⟨e, hb⟩ := ih hl' hs
            rw [vr_int hv, e]
            refine ⟨rfl, fun y hy => ?_⟩
            cases hy with
            | head => exact blt_lt hlt
            | tail _ hy => exact hb y hy
          · cases h'
        · cases h'
      · cases h'
theorem foldl_bytes : ∀ (l : List Nat) (s : ByteArray), (l.map Int.ofNat).foldl (fun r n => r.push (UInt8.ofNat n.toNat)) s = ⟨s.data ++ (l.map UInt8.ofNat).toArray⟩ := by
  intro l
  induction l with
  | nil => intro s; cases s; simp
  | cons x l ih =>
    intro s
    simp only [List.map_cons, List.foldl_cons]
    rw [ih]
    cases s
    simp [ByteArray.push]
theorem eB2S_ok {H : T O} {src dst : TypeId} {x u : V} {y : Value} (he : eB2S P H src dst x = some u) (r : RH G S μ H.at w) (hv : VR S μ x y) : ∃ z, (convert src dst y).run P w = .ok z w ∧ VR S μ u z := by
  unfold eB2S at he
  split at he
  case h_2 => cases he
  rename_i e b o len cap z op hu1 hu2
  split at he
  case h_2 => cases he
  rename_i cs rl el fz ro hu3 hb
  split at he
  case h_2 => cases he
  rename_i vs hvs
  split at he
  case h_2 => cases he
  rename_i l hl
  injection he with he
  subst he
  cases hv
  obtain ⟨xs, h1, h2, h3, _⟩ := RH.range r hb hvs
  obtain ⟨e1, e2⟩ := unB_ok hl h2
  refine ⟨_, ?_, .str l e2⟩
  rw [run_convert_bytes_string w src dst e _ _ _ hu1 hu3 hu2]
  have hlc := run_loadCells_list (P := P) w ⟨(μ b).blk, (μ b).sh + o, none⟩ xs (fun j v hj => by rw [Addr.add_none]; exact h3 j v hj)
  rw [h1] at hlc
  rw [run_bytesToString w _ len _ (l.map Int.ofNat) (by rw [hlc, e1]; simp), foldl_bytes]
  simp [bytesOf]
theorem freeze_alloc (w : World) (c : Array Value) (e : TypeId) (k : Nat) : (w.alloc (.cells c e)).freeze ⟨w.heap.size, k, none⟩ 1 = w.alloc (.cells c e (k, k + 1)) := by
  unfold World.freeze World.alloc
  rw [if_neg (by decide)]
  simp only
  congr 1
  apply Array.ext_getElem?
  intro i
  simp only [Array.getElem?_modify, Array.getElem?_push]
  by_cases h : w.heap.size = i
  · subst h; simp
  · simp [h, Ne.symm h]
theorem eS2B_ok {H : T O} {src dst : TypeId} {x : V} {r : Nx} {y : Value} (he : eS2B P H n src dst x = some r) (hr : RH G S μ H.at w) (hn : ¬ S n) (hv : VR S μ x y) :
    OpOk P G S μ H.at (((convert src dst y).run P w).andThen fun v w => .ok (.value v) w) w n r := by
  unfold eS2B at he
  split at he
  case h_2 => cases he
  rename_i e l hu1 hu2
  split at he
  case h_2 => cases he
  rename_i hu3 hlen
  rw [fN_eq] at he
  simp only [Nat.ble_eq] at hlen
  obtain ⟨k1, rfl⟩ := layRow_spec he
  cases hv with
  | str _ hl =>
    have hq : (Question.appendCap l.length 0 e).forced = false := rfl
    have hge : l.length ≤ grownCap w l.length 0 e := grownCap_ge w l.length 0 e
    have harr : (bytesOf l).data.map (fun b => Value.int .u8 b.toNat) = (byteCells (bytesOf l)).toArray := by
      unfold byteCells
      apply Array.ext'
      simp
    have hbl : (byteCells (bytesOf l)).length = l.length := by rw [byteCells_length, bytesOf_size]
    have hvs := (byteVs_vr (S := S) (μ := μ) hl).up hn ⟨w.drew.heap.size, 0, ((byteCells (bytesOf l)).toArray ++ Array.replicate (grownCap w l.length 0 e - l.length) (Value.int .u8 0)).size⟩
    have hsz : ((byteCells (bytesOf l)).toArray ++ Array.replicate (grownCap w l.length 0 e - l.length) (Value.int .u8 0)).size = grownCap w l.length 0 e := by simp [hbl]; omega
    have hor := OR.lay (el := e) (fr := (grownCap w l.length 0 e, grownCap w l.length 0 e + 1)) (fz := ⟨0, true, false⟩) (l := ⟨w.drew.heap.size, 0, ((byteCells (bytesOf l)).toArray ++ Array.replicate (grownCap w l.length 0 e - l.length) (Value.int .u8 0)).size⟩)
      hvs k1 (growArr _ _) rfl (by simp) ⟨fun h => absurd h (by simp), fun h => absurd h (by simp), fun o _ ho => by simp only at ho; rw [hsz] at ho; simp; omega⟩
    obtain ⟨a, b⟩ := RH.alloc (w := w.drew) hr.drew hn _ _ _ hor
    refine ⟨.slice (some ⟨w.heap.size, 0, none⟩) l.length (grownCap w l.length 0 e), w.drew.alloc (.cells ((byteCells (bytesOf l)).toArray ++ Array.replicate (grownCap w l.length 0 e - l.length) (Value.int .u8 0)) e (grownCap w l.length 0 e, grownCap w l.length 0 e + 1)), _, _, .inl ?_,
      VR.newS (S := S) (μ := μ) (n := n) ⟨w.drew.heap.size, 0, ((byteCells (bytesOf l)).toArray ++ Array.replicate (grownCap w l.length 0 e - l.length) (Value.int .u8 0)).size⟩ rfl l.length l.length 1 true _ (Nat.le_refl _) hge (by simp) (by show _ ≤ Array.size _; rw [hsz]; omega), ?_, ?_⟩
    · simp [convert, run_underlying hu1, run_underlying hu2, run_underlying hu3, Conv.stringToBytes, hq, Go.newRow, markStringish, bytesOf_size]
      have hg : (Question.appendCap l.length 0 e).cut (w.tape w.drawn (Question.appendCap l.length 0 e)) = grownCap w l.length 0 e := rfl
      rw [hg, harr]
      have hsh : (w.drew.alloc (.cells ((byteCells (bytesOf l)).toArray ++ Array.replicate (grownCap w l.length 0 e - l.length) (Value.int .u8 0)) e)).shape? w.heap.size = some (e, grownCap w l.length 0 e) := by
        have := heap_alloc_new w.drew (.cells ((byteCells (bytesOf l)).toArray ++ Array.replicate (grownCap w l.length 0 e - l.length) (Value.int .u8 0)) e)
        simp only [World.shape?]
        rw [show w.heap.size = w.drew.heap.size from rfl, this]
        simp only [hsz]
      rw [hsh]
      simp only [run_freeze, Result.andThen_ok]
      rw [show (⟨w.heap.size, grownCap w l.length 0 e, none⟩ : Addr) = ⟨w.drew.heap.size, grownCap w l.length 0 e, none⟩ from rfl, freeze_alloc]
    · rw [at_put1]; exact a
    · rw [at_put1]; exact Go.of_drew b
theorem eMakeMap_ok {H : T O} {t : TypeId} {q : Option V} {r : Nx} {x : Option Value} (he : eMakeMap P H n t q = some r) (hr : RH G S μ H.at w) (hn : ¬ S n) (hq : OV S μ q x) :
    OpOk P G S μ H.at (((Instr.makeMap t x).run P w).andThen fun v w => .ok (.value v) w) w n r := by
  have hor : OR (S1 S n) (μ1 μ n ⟨w.heap.size, 0, 0⟩) ⟨w.heap.size, 0, 0⟩ (.map #[] 0) (.map [] 0) := ⟨[], rfl, .nil⟩
  obtain ⟨a, b⟩ := RH.alloc hr hn _ _ _ hor
  have hv : VR (S1 S n) (μ1 μ n ⟨w.heap.size, 0, 0⟩) (.m n) (.map (some w.heap.size)) := by
    have := VR.m (S := S1 S n) (μ := μ1 μ n ⟨w.heap.size, 0, 0⟩) n (.inr ⟨Nat.le_refl _, Nat.lt_succ_self _⟩)
    rw [μ1_new] at this
    exact this
  unfold eMakeMap at he
  split at he
  · rw [T.putK_eq] at he
    injection he with he
    subst he
    have : x = none := by cases x with | none => rfl | some _ => exact hq.elim
    subst this
    exact ⟨.map (some w.heap.size), w.alloc (.map #[] 0), _, _, .inl (by simp [Instr.makeMap]), hv, by rw [at_put1]; exact a, by rw [at_put1]; exact b⟩
  · split at he
    · rename_i k m _ _ _ hu
      rw [T.putK_eq] at he
      injection he with he
      subst he
      obtain ⟨y, rfl⟩ : ∃ y, x = some y := by cases x with | none => exact hq.elim | some y => exact ⟨y, rfl⟩
      have hy : y = .int k m := vr_int hq
      subst hy
      exact ⟨.map (some w.heap.size), w.alloc (.map #[] 0), _, _, .inl (by simp [Instr.makeMap, run_underlying hu, asInt, asIntOf]), hv, by rw [at_put1]; exact a, by rw [at_put1]; exact b⟩
    · cases he
  · cases he
end
end Ev
end Go.Proofs.YtmlhijlcefogmaaGreatDoor
