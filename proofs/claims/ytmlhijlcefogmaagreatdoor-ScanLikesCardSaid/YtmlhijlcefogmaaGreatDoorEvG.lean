/-
  Evaluation of closed runs, part G: append, copy, lengths; bytes and strings. No conditions; no program.
-/
import Derived.Test.YtmlhijlcefogmaaGreatDoorEvF
import Derived.Deep.AppendSrc
import Derived.Laws.BytesString
import Derived.Laws.AppendOwn
set_option linter.unusedVariables false
set_option linter.unusedSimpArgs false
namespace Go.Proofs.YtmlhijlcefogmaaGreatDoor
namespace Ev

noncomputable section
def byteVs (l : List Nat) : List V := List.rec (motive := fun _ => List V) [] (fun x _ ih => .i .u8 (.ofNat x) :: ih) l
/-- What an append or a copy takes: how many elements, their cells. -/
def srcOf (P : Program) (H : T O) (tx : TypeId) (z : Nat) (x : V) : Option (Nat × List V) :=
  match P.underlying tx, x with
  | some (.slice _), .s b o len _ z' _ => match Nat.beq z z', H.at b with
    | true, some (.row cs _ _ _ _) => match getN cs o (len * z) with | some l => some (len, l) | none => none
    | _, _ => none
  | some (.slice _), .g (.slice none 0 _) => some (0, [])
  | some .string, .str l => match Nat.beq z 1 with | true => some (l.length, byteVs l) | false => none
  | _, _ => none
/-- A row laid. -/
def layRow (H : T O) (n : Nat) (vs : List V) (el : TypeId) (fz : Fz) (v : V) : Option Nx :=
  match allOne vs with
  | true => putNK vs 0 .nil fun cs => fN vs.length fun len => H.putK n (some (.row cs len el fz false)) fun H => some (.val v H (n + 1))
  | false => none
def appL (l m : List V) : List V := List.rec (motive := fun _ => List V) m (fun x _ ih => x :: ih) l
def eApp (P : Program) (H : T O) (n : Nat) (t tx : TypeId) (s x : V) : Option Nx :=
  match P.underlying t with
  | some (.slice e) => match P.info? e, zeroV P e with
    | some i, some zl => match srcOf P H tx i.size x, Nat.beq zl.length i.size with
      | some (m, news), true => match Nat.beq m 0, s with
        | true, .g (.slice none 0 0) => some (.lt s)
        | true, .s _ _ _ _ _ _ => some (.lt s)
        | false, .g (.slice none 0 0) => match Nat.ble (m * i.bytes) 140737488355328 && Nat.ble m (2 ^ 40) with
          | true => fN m fun m => layRow H n news e ⟨0, false, false⟩ (.s n 0 m m i.size true)
          | false => none
        | false, .s b o len cap z op => match Nat.beq z i.size with
          | true => fN (len + m) fun need => match Nat.ble need cap with
            | true => match putRow H b (o + len * z) news with | some H => some (.val (.s b o need cap z op) H n) | none => none
            | false => match H.at b, Nat.ble (need * i.bytes) 140737488355328 && Nat.ble need (2 ^ 40) with
              | some (.row cs rl el fz ro), true => match getN cs o (len * z), op with
                | some olds, false => layRow H n (appL olds news) e ⟨0, false, false⟩ (.s n 0 need need z true)
                | some olds, true => match ro, Nat.ble fz.n (o + len * z) && Nat.beq el e with
                  | false, true => H.putK b none fun H => layRow H n (appL olds news) el ⟨fz.n - o, fz.st, false⟩ (.s n 0 need need z true)
                  | _, _ => none
                | none, _ => none
              | _, _ => none
          | false => none
        | _, _ => none
      | _, _ => none
    | _, _ => none
  | _ => none
end

theorem appL_eq (l m : List V) : appL l m = l ++ m := by
  induction l with
  | nil => rfl
  | cons x l ih => show x :: appL l m = _; rw [ih]; rfl
theorem byteVs_eq (l : List Nat) : byteVs l = l.map fun x => .i .u8 (.ofNat x) := by
  induction l with
  | nil => rfl
  | cons x l ih => show _ :: byteVs l = _; rw [ih]; rfl
theorem byteCells_of {l : List Nat} (h : ∀ x ∈ l, x < 256) : byteCells (bytesOf l) = l.map fun x => Value.int .u8 (Int.ofNat x) := by
  unfold byteCells bytesOf
  simp only [List.map_map]
  refine List.map_congr_left fun x hx => ?_
  have := h x hx
  simp only [Function.comp]
  congr 2
  simp
  omega
section
variable {P : Program} {G : Nat} {S : Nat → Prop} {μ : Nat → Loc} {w : World} {n : Nat}
theorem byteVs_vr {l : List Nat} (h : ∀ x ∈ l, x < 256) : VRs S μ (byteVs l) (byteCells (bytesOf l)) := by
  rw [byteVs_eq, byteCells_of h]
  clear h
  induction l with
  | nil => exact .nil
  | cons x l ih => exact .cons (.i _ _) ih
theorem byteVs_one (l : List Nat) : ∀ v ∈ byteVs l, v.one = true := by
  rw [byteVs_eq]
  intro v hv
  obtain ⟨x, _, rfl⟩ := List.mem_map.1 hv
  rfl
theorem bytesOf_size (l : List Nat) : (bytesOf l).size = l.length := by show (l.map UInt8.ofNat).toArray.size = _; simp
theorem srcOf_ok {H : T O} {tx : TypeId} {z m : Nat} {x : V} {news : List V} {y : Value} (he : srcOf P H tx z x = some (m, news)) (r : RH G S μ H.at w) (hv : VR S μ x y) :
    ∃ ns, VRs S μ news ns ∧ (∀ v ∈ news, v.one = true) ∧ Src P z tx y m ns w := by
  unfold srcOf at he
  split at he
  · rename_i e b o len cap z' op hu
    cases hv with
    | s _ _ _ _ _ _ cap' hS =>
      split at he
      · rename_i cs rl el fz ro hz hb
        have hzz := Nat.eq_of_beq_eq_true hz
        subst hzz
        split at he
        · rename_i l hl
          injection he with he
          injection he with e1 e2
          subst e1 e2
          obtain ⟨xs, h1, h2, h3, h4⟩ := RH.range r hb hl
          exact ⟨xs, h2, h4, Src.ofSlice w hu _ _ _ xs h1 (fun j u hj => by rw [Addr.add_none]; exact h3 j u hj) (h2.oneCell h4)⟩
        · cases he
      · cases he
  · rename_i e c hu
    injection he with he
    injection he with e1 e2
    subst e1 e2
    cases hv
    exact ⟨[], .nil, (fun v h => absurd h (by simp)), Src.ofNil w hu c⟩
  · rename_i l hu
    cases hv with
    | str _ hl =>
      split at he
      · rename_i hz
        have hzz := Nat.eq_of_beq_eq_true hz
        subst hzz
        injection he with he
        injection he with e1 e2
        subst e1 e2
        have := Src.ofString w hu (bytesOf l)
        rw [bytesOf_size] at this
        exact ⟨_, byteVs_vr hl, byteVs_one l, this⟩
      · cases he
  · cases he
theorem layRow_spec {H : T O} {vs : List V} {el : TypeId} {fz : Fz} {v : V} {r : Nx} (h : layRow H n vs el fz v = some r) : allOne vs = true ∧ r = .val v (H.put n (some (.row (putN vs 0 .nil) vs.length el fz false))) (n + 1) := by
  unfold layRow at h
  split at h
  · rename_i hc
    rw [putNK_eq, fN_eq, T.putK_eq] at h
    injection h with h
    exact ⟨hc, h.symm⟩
  · cases h
/-- A laid row says the truth of cells that begin so. -/
theorem OR.lay {S' : Nat → Prop} {μ' : Nat → Loc} {l : Loc} {c : Array Value} {el : TypeId} {fr : Nat × Nat} {fz : Fz} {vs : List V} {xs : List Value} (hv : VRs S' μ' vs xs) (h1 : allOne vs = true) (hc : ∀ i, i < xs.length → c[l.sh + i]? = xs[i]?) (hsz : c.size = l.sz) (hl : l.sh + xs.length ≤ c.size) (hf : frOk fr l vs.length fz) :
    OR S' μ' l (.cells c el fr) (.row (putN vs 0 .nil) vs.length el fz false) := by
  have hlen := hv.length
  refine ⟨c, fr, rfl, hsz, by omega, hf, fun i u hu => ?_⟩
  rw [putN_at] at hu
  split at hu
  · rename_i hi
    obtain ⟨y, hy, hyr⟩ := hv.at _ _ hu
    simp only [Nat.sub_zero] at hy hu
    exact ⟨by omega, y, by rw [hc i (by omega)]; exact hy, allOne_spec h1 u (List.mem_of_getElem? hu), hyr⟩
  · rw [T.at_nil] at hu; cases hu
theorem growArr (xs : List Value) (ys : Array Value) : ∀ i, i < xs.length → (xs.toArray ++ ys)[0 + i]? = xs[i]? := by
  intro i hi
  rw [Nat.zero_add, Array.getElem?_append_left (by simpa using hi)]
  simp
theorem Go.of_drew {h' : Nat → Option O} {h : Nat → Option O} {S' : Nat → Prop} {μ' : Nat → Loc} {w' : World} {n' : Nat} (a : Go S μ h w.drew n S' μ' h' w' n') : Go S μ h w n S' μ' h' w' n' := ⟨a.le, a.new, a.same, a.os, a.tape, a.output, a.size, a.still, a.dom, a.own⟩
/-- A block given up. -/
theorem RH.kill {h : Nat → Option O} (r : RH G S μ h w) (b : Nat) {o : O} (hb : h b = some o) : RH G S μ (fun c => if c = b then none else h c) w ∧ Go S μ h w n S μ (fun c => if c = b then none else h c) w n := by
  have hs : ∀ c o, (if c = b then none else h c) = some o → h c = some o := fun c o hc => by split at hc; cases hc; exact hc
  have g := Go.refl (n := n) r
  exact ⟨r.sub hs, ⟨g.le, g.new, g.same, g.os, g.tape, g.output, g.size, g.still, fun c o hc => g.dom c o (hs c o hc), fun c o hc => g.own c o (hs c o hc)⟩⟩
theorem at_put0 (H : T O) (b : Nat) : (H.put b none).at = fun c => if c = b then none else H.at c := by
  funext c
  rw [T.at_put]
section
variable {H : T O} {t tx ty e : TypeId} {i : TypeInfo} {zv xv : Value} {m : Nat} {news : List V} {ns : List Value} (hu : P.underlying t = some (.slice e)) (hi : P.info? e = some i) (z2 : i.zero = some zv) (hzc : zv.cells.size = i.size)
  (hr : RH G S μ H.at w) (hn : ¬ S n) (s1 : VRs S μ news ns) (s3 : Src P i.size tx xv m ns w)
include hu hi z2 hzc hn s1 s3
theorem app_fresh (sb : Option Addr) (sl sc : Nat) (olds : List V) (os : List Value) (H' : T O) (r : Nx) (ho : VRs S μ olds os) (hol : os.length = sl * i.size) (hfc : (Builtin.firstCells i.size sl (.slice sb sl sc)).run P w.drew = .ok os.toArray w.drew) (hlt : sc < sl + m)
    (hb1 : (sl + m) * i.bytes ≤ 140737488355328) (hb2 : sl + m ≤ 2 ^ 40) (fz : Fz) (hfe : fz.ex = false) (hr' : RH G S μ H'.at w) (hg : Go S μ H.at w n S μ H'.at w n) (he : layRow H' n (appL olds news) e fz (.s n 0 (sl + m) (sl + m) i.size true) = some r) :
    OpOk P G S μ H.at (((Builtin.append_ #[t, tx] ty #[.slice sb sl sc, xv]).run P w).andThen fun v w => .ok (.value v) w) w n r := by
  have hnl := s1.length
  have hns := s3.newsLen
  obtain ⟨k1, rfl⟩ := layRow_spec he
  rw [appL_eq] at k1
  have hrun := run_append_grow_src (P := P) w t tx ty e i zv hu hi z2 sb sl sc os hfc xv m ns s3 hlt (by omega) (growslice_fits hlt hb1)
  have hge := grownCap_ge w (sl + m) sc e
  have hvs := (ho.append s1).up hn ⟨w.drew.heap.size, 0, ((os ++ ns).toArray ++ Builtin.zeroCells zv.cells (grownCap w (sl + m) sc e - (sl + m))).size⟩
  have hsz : ((os ++ ns).toArray ++ Builtin.zeroCells zv.cells (grownCap w (sl + m) sc e - (sl + m))).size = grownCap w (sl + m) sc e * i.size := by
    rw [Array.size_append, size_zeroCells, hzc]
    simp only [List.size_toArray, List.length_append, hol, hns, ← Nat.add_mul]
    congr 1
    omega
  have hex : ∀ (l : Loc) (k : Nat), fz.ex = true → l.sh = 0 ∧ l.sz = k := fun l k h => by rw [hfe] at h; cases h
  have hor := OR.lay (el := e) (fr := (0, 0)) (fz := fz) (l := ⟨w.drew.heap.size, 0, ((os ++ ns).toArray ++ Builtin.zeroCells zv.cells (grownCap w (sl + m) sc e - (sl + m))).size⟩) hvs k1 (growArr (os ++ ns) _) rfl (by simp) ⟨hex _ _, fun _ => Nat.zero_le _, fun o _ _ => by simp⟩
  obtain ⟨a, b⟩ := RH.alloc (w := w.drew) hr'.drew hn _ _ _ hor
  refine ⟨.slice (some ⟨w.heap.size, 0, none⟩) (sl + m) (grownCap w (sl + m) sc e), w.drew.alloc (.cells ((os ++ ns).toArray ++ Builtin.zeroCells zv.cells (grownCap w (sl + m) sc e - (sl + m))) e), _, _, .inl ?_, VR.newS (S := S) (μ := μ) (n := n) ⟨w.drew.heap.size, 0, ((os ++ ns).toArray ++ Builtin.zeroCells zv.cells (grownCap w (sl + m) sc e - (sl + m))).size⟩ rfl (sl + m) (sl + m) i.size true _ (Nat.le_refl _) hge (by simp) (Nat.le_of_eq hsz.symm), ?_, ?_⟩
  · rw [hrun]; rfl
  · rw [at_put1, appL_eq]; exact a
  · rw [at_put1, appL_eq]; exact hg.trans (Go.of_drew b)
include hr
theorem app_move {b o len cap' : Nat} {cs : T V} {rl : Nat} {fz : Fz} (hb : H.at b = some (.row cs rl e fz false)) (hS : S b) (hsz : (μ b).sh + o + cap' * i.size ≤ (μ b).sz) {olds : List V} (hold : getN cs o (len * i.size) = some olds) (hfz : fz.n ≤ o + len * i.size)
    (hlim1 : (len + m) * i.bytes ≤ 140737488355328) (hlim2 : len + m ≤ 2 ^ 40) {r : Nx} (he : layRow (H.put b none) n (appL olds news) e ⟨fz.n - o, fz.st, false⟩ (.s n 0 (len + m) (len + m) i.size true) = some r) :
    OpOk P G S μ H.at (((Builtin.append_ #[t, tx] ty #[.slice (some ⟨(μ b).blk, (μ b).sh + o, none⟩) len cap', xv]).run P w).andThen fun v w => .ok (.value v) w) w n r := by
  have hnl := s1.length
  have hns := s3.newsLen
  obtain ⟨os, o1, o2, o3, o4⟩ := RH.range hr hb hold
  by_cases hreal : len + m ≤ cap'
  · -- in its place
    obtain ⟨_, c, fr, hx, g1, g2, g3, g4⟩ := RH.row hr hb
    have hlen : len * i.size + ns.length ≤ cap' * i.size := by
      rw [hns, ← Nat.add_mul]
      exact Nat.mul_le_mul_right _ hreal
    have hthere := RH.there hr hb (o := o + len * i.size) (k := ns.length) (by omega) hfz
    have hrun := run_append_room_src (P := P) w t tx ty e i hu hi (μ b).blk ((μ b).sh + o) len cap' xv m ns s3 hreal
      (fun j hj => by have := (hthere j hj).1; rwa [← Nat.add_assoc] at this) (fun j hj => by have := (hthere j hj).2; rwa [← Nat.add_assoc] at this)
    obtain ⟨k1, rfl⟩ := layRow_spec he
    rw [appL_eq] at k1
    obtain ⟨c', c1, c2, c3⟩ := setCells_block (μ b).blk e fr ns ((μ b).sh + o + len * i.size) w c hx (by omega)
    have hvs := (o2.append s1).up hn ⟨(μ b).blk, (μ b).sh + o, (μ b).sz⟩
    have hor := OR.lay (el := e) (c := c') (fr := fr) (fz := ⟨fz.n - o, fz.st, false⟩) (l := ⟨(μ b).blk, (μ b).sh + o, (μ b).sz⟩) hvs k1 (fun k hk => by
      show c'[(μ b).sh + o + k]? = _
      rw [c3]
      simp only [List.length_append] at hk
      by_cases hkl : k < os.length
      · rw [if_neg (by omega), List.getElem?_append_left hkl]
        have := o3 k _ (List.getElem?_eq_getElem hkl)
        rw [cell_of hx] at this
        rw [this, List.getElem?_eq_getElem hkl]
      · rw [if_pos (by omega), List.getElem?_append_right (by omega)]
        congr 1
        omega) (by show c'.size = (μ b).sz; omega) (by show (μ b).sh + o + _ ≤ _; simp only [List.length_append]; omega)
      ⟨fun h => absurd h (by simp), fun hst => by have := g3.2.1 hst; show fr.2 ≤ (μ b).sh + o + (fz.n - o); omega, fun k hk1 hk2 => g3.2.2 k (by simp only at hk1; omega) hk2⟩
    obtain ⟨a, bb⟩ := RH.move (w := w) (w' := w.setCells (μ b).blk ((μ b).sh + o + len * i.size) ns) hr hn hb rfl ⟨(μ b).blk, (μ b).sh + o, (μ b).sz⟩ rfl _ _ hor (World.os_setCells _ _ _ _) (setCells_tape _ _ _ _) (World.output_setCells _ _ _ _) (setCells_size _ _ _ _) c1
      (fun k hk hne => World.heap_setCells_other _ _ _ _ hk hne)
    refine ⟨.slice (some ⟨(μ b).blk, (μ b).sh + o, none⟩) (len + m) cap', w.setCells (μ b).blk ((μ b).sh + o + len * i.size) ns, S1 S n, μ1 μ n ⟨(μ b).blk, (μ b).sh + o, (μ b).sz⟩, .inl ?_, ?_, ?_, ?_⟩
    · rw [hrun]; rfl
    · have := VR.s (S := S1 S n) (μ := μ1 μ n ⟨(μ b).blk, (μ b).sh + o, (μ b).sz⟩) n 0 (len + m) (len + m) i.size true cap' (.inr ⟨Nat.le_refl _, Nat.lt_succ_self _⟩) (Nat.le_refl _) hreal (by simp) (by rw [μ1_new]; simpa using hsz)
      rw [μ1_new] at this
      exact this
    · rw [at_put2, appL_eq]; exact a
    · rw [at_put2, appL_eq]; exact bb
  · -- in a new row
    obtain ⟨q1, q2⟩ := RH.kill (n := n) hr b hb
    exact app_fresh (ty := ty) hu hi z2 hzc hn s1 s3 _ len cap' olds os (H.put b none) r o2 o1 (run_firstCells_some w.drew i.size len _ len cap' os o1 (fun j v hj => by rw [Addr.add_none]; exact o3 j v hj)) (by omega) hlim1 hlim2 ⟨fz.n - o, fz.st, false⟩ rfl (by rw [at_put0]; exact q1) (by rw [at_put0]; exact q2) he
end
theorem beq_pos {m : Nat} (h : Nat.beq m 0 = false) : m ≠ 0 := fun e => by rw [e] at h; cases h
theorem ble_not {a b : Nat} (h : Nat.ble a b = false) : b < a := by
  have : ¬ (a ≤ b) := fun h' => by rw [Nat.ble_eq_true_of_le h'] at h; cases h
  omega
theorem eApp_ok {H : T O} {t tx ty : TypeId} {s x : V} {r : Nx} {sv xv : Value} (he : eApp P H n t tx s x = some r) (hr : RH G S μ H.at w) (hn : ¬ S n) (hs : VR S μ s sv) (hx : VR S μ x xv) {res : Result Next}
    (hres : res = ((Builtin.append_ #[t, tx] ty #[sv, xv]).run P w).andThen fun v w => .ok (.value v) w) : OpOk P G S μ H.at res w n r := by
  subst hres
  unfold eApp at he
  split at he
  case h_2 => cases he
  rename_i e hu
  split at he
  case h_2 => cases he
  rename_i i zl hi hz
  obtain ⟨it, zv, z1, z2, z3, z4⟩ := zeroV_spec (P := P) (S := S) (μ := μ) (w := w) hz
  rw [hi] at z1
  injection z1 with z1
  subst z1
  split at he
  case h_2 => cases he
  rename_i m news hsrc hzl
  have hzl := Nat.eq_of_beq_eq_true hzl
  have hzc : zv.cells.size = i.size := by have := z3.length; simp only [Array.length_toList] at this; omega
  obtain ⟨ns, s1, s2, s3⟩ := srcOf_ok hsrc hr hx
  have hnl := s1.length
  have hns := s3.newsLen
  split at he
  · -- nothing, to nil
    rename_i hm
    have hm := Nat.eq_of_beq_eq_true hm
    subst hm
    injection he with he
    subst he
    have hsv : sv = .slice none 0 0 := by cases hs; rfl
    subst hsv
    have hns0 : ns = [] := List.eq_nil_of_length_eq_zero (by omega)
    subst hns0
    exact ⟨_, by rw [run_append_nothing w t tx ty e i hu hi none 0 0 (Nat.le_refl _) xv s3]; rfl, hs⟩
  · rename_i b o len cap z op hm
    have hm := Nat.eq_of_beq_eq_true hm
    subst hm
    injection he with he
    subst he
    have hns0 : ns = [] := List.eq_nil_of_length_eq_zero (by omega)
    subst hns0
    cases hs with
    | s b o len cap z op cap' hS hl hc hop hsz =>
      exact ⟨_, by rw [run_append_nothing w t tx ty e i hu hi _ len cap' (by omega) xv s3]; rfl, .s b o len cap z op cap' hS hl hc hop hsz⟩
  · -- to nil
    rename_i hm
    have hsv : sv = .slice none 0 0 := by cases hs; rfl
    subst hsv
    have hm0 := beq_pos hm
    split at he
    · rename_i hc
      simp only [Bool.and_eq_true, Nat.ble_eq] at hc
      rw [fN_eq] at he
      have he' : layRow H n (appL [] news) e ⟨0, false, false⟩ (.s n 0 (0 + m) (0 + m) i.size true) = some r := by rw [Nat.zero_add]; exact he
      exact app_fresh (ty := ty) hu hi z2 hzc hn s1 s3 none 0 0 [] [] H r .nil (by simp) (run_firstCells_none w.drew i.size 0 0 0) (by omega) (by rw [Nat.zero_add]; exact hc.1) (by omega) ⟨0, false, false⟩ rfl hr (Go.refl hr) he'
    · cases he
  · rename_i b o len cap z op hm
    have hm0 := beq_pos hm
    split at he
    case h_2 => cases he
    rename_i hzi
    have hzi := Nat.eq_of_beq_eq_true hzi
    subst hzi
    rw [fN_eq] at he
    cases hs with
    | s _ _ _ _ _ _ cap' hS hl hc hop hsz =>
      split at he
      · -- there is room
        rename_i hroom
        have hroom : len + m ≤ cap := by simpa using hroom
        split at he
        · rename_i H' hput
          injection he with he
          subst he
          obtain ⟨k1, k2, k3, k4⟩ := putRow_ok (n := n) hput hr s1
          have hrun := run_append_room_src (P := P) w t tx ty e i hu hi (μ b).blk ((μ b).sh + o) len cap' xv m ns s3 (by omega)
            (fun j hj => by have := (k1 j hj).1; rwa [← Nat.add_assoc] at this) (fun j hj => by have := (k1 j hj).2; rwa [← Nat.add_assoc] at this)
          rw [Nat.add_assoc] at hrun
          refine ⟨_, _, S, μ, .inl ?_, .s b o (len + m) cap i.size op cap' hS hroom hc hop hsz, k3, k4⟩
          rw [hrun]
          rfl
        · cases he
      · rename_i hroom
        have hroom := ble_not hroom
        split at he
        case h_2 => cases he
        rename_i cs rl el fz ro hb hlim
        simp only [Bool.and_eq_true, Nat.ble_eq] at hlim
        split at he
        · -- a new row for sure
          rename_i olds hold
          have hcap := hop rfl
          obtain ⟨os, o1, o2, o3, o4⟩ := RH.range hr hb hold
          exact app_fresh (ty := ty) hu hi z2 hzc hn s1 s3 _ len cap' olds os H r o2 o1 (run_firstCells_some w.drew i.size len _ len cap' os o1 (fun j v hj => by rw [Addr.add_none]; exact o3 j v hj)) (by omega) hlim.1 (by omega) ⟨0, false, false⟩ rfl hr (Go.refl hr) he
        · rename_i olds hold
          split at he
          · rename_i hfz
            simp only [Bool.and_eq_true, Nat.ble_eq] at hfz
            have hel := Nat.eq_of_beq_eq_true hfz.2
            subst hel
            rw [T.putK_eq] at he
            exact app_move (ty := ty) hu hi z2 hzc hr hn s1 s3 hb hS hsz hold hfz.1 hlim.1 (by omega) he
          · cases he
        · cases he
  · cases he
end
end Ev
end Go.Proofs.YtmlhijlcefogmaaGreatDoor
