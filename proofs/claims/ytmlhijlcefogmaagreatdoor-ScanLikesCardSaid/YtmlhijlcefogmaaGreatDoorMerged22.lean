/-
  Evaluation of closed runs, part K: the abstract machine and what it says of the machine. No conditions; no program.
  Evaluation of closed runs, part L: a step of the abstract machine. No conditions; no program.
-/
import Derived.Test.YtmlhijlcefogmaaGreatDoorEvJ
import Derived.Calls
set_option linter.unusedVariables false
set_option linter.unusedSimpArgs false
namespace Go.Proofs.YtmlhijlcefogmaaGreatDoor
namespace Ev

/-- What a frame has still to do. -/
inductive AI where
  | it (i : Item)
  | rf (l : Nat)
  | erf (l : Nat)
inductive AM where
  | run
  | ret
  | pan (chain : List (V × Bool))
structure AF where
  fn : FuncId
  nt : Nat
  F : T V
  todo : List AI
  df : List DV
  md : AM
  kd : Bool
  rnd : Option Nat
structure Cfg where
  top : AF
  cs : List AF
  H : T O
  n : Nat
inductive Res where
  | ret (fn : FuncId) (v : V) (H : T O) (n : Nat)
  | pan (fn : FuncId) (chain : List (V × Bool)) (H : T O) (n : Nat)
inductive Out where
  | done (r : Res)
  | next (c : Cfg)

def AI.real (μ : Nat → Loc) : AI → Item
  | .it i => i
  | .rf l => .inRangeFunc (μ l).blk
  | .erf l => .endRangeFunc (μ l).blk
def AI.ok (S : Nat → Prop) : AI → Prop
  | .it _ => True
  | .rf l => S l
  | .erf l => S l
def DR (S : Nat → Prop) (μ : Nat → Loc) : DV → Deferred → Prop
  | .fn fn caps args, d => ∃ cs xs : Array Value, d = { target := .fn fn cs, args := xs } ∧ VRs S μ caps cs.toList ∧ VRs S μ args xs.toList
  | .col b, d => S b ∧ d = { target := .collected (μ b).blk, args := #[] }
inductive DRs (S : Nat → Prop) (μ : Nat → Loc) : List DV → List Deferred → Prop
  | nil : DRs S μ [] []
  | cons {d : DV} {x : Deferred} {ds : List DV} {xs : List Deferred} (h : DR S μ d x) (hs : DRs S μ ds xs) : DRs S μ (d :: ds) (x :: xs)
inductive PRs (S : Nat → Prop) (μ : Nat → Loc) : List (V × Bool) → List PanicEntry → Prop
  | nil : PRs S μ [] []
  | cons {v : V} {x : Value} {b : Bool} {ds : List (V × Bool)} {xs : List PanicEntry} (h : VR S μ v x) (hs : PRs S μ ds xs) : PRs S μ ((v, b) :: ds) ({ v := x, recovered := b } :: xs)
def MR (S : Nat → Prop) (μ : Nat → Loc) : AM → FrameMode → Prop
  | .run, m => m = .run
  | .ret, m => m = .returning
  | .pan ch, m => ∃ ps, m = .panicking ps ∧ PRs S μ ch ps
def kdOf (b : Bool) : CallKind := if b then .deferred else .normal
/-- An abstract frame says the truth of a frame. -/
structure FR (S : Nat → Prop) (μ : Nat → Loc) (A : AF) (R : Frame) : Prop where
  fn : R.fn = A.fn
  tm : TR S μ A.nt A.F R.tmps
  todo : R.todo = A.todo.map (AI.real μ)
  ok : ∀ x ∈ A.todo, x.ok S
  df : DRs S μ A.df R.defers
  md : MR S μ A.md R.mode
  kd : R.kind = kdOf A.kd
  rnd : R.roundOf = A.rnd.map fun l => (μ l).blk
  rok : ∀ l, A.rnd = some l → S l
inductive FRs (S : Nat → Prop) (μ : Nat → Loc) : List AF → List Frame → Prop
  | nil : FRs S μ [] []
  | cons {A : AF} {R : Frame} {As : List AF} {Rs : List Frame} (h : FR S μ A R) (hs : FRs S μ As Rs) : FRs S μ (A :: As) (R :: Rs)

section
variable {S S' : Nat → Prop} {μ μ' : Nat → Loc} (hn : ∀ b, S b → S' b) (hμ : ∀ b, S b → μ' b = μ b)
include hn hμ
theorem DR.mono {d : DV} {x : Deferred} (h : DR S μ d x) : DR S' μ' d x := by
  cases d with
  | fn fn caps args => obtain ⟨cs, xs, e, h1, h2⟩ := h; exact ⟨cs, xs, e, h1.mono hn hμ, h2.mono hn hμ⟩
  | col b => obtain ⟨h1, h2⟩ := h; exact ⟨hn b h1, by rw [hμ b h1]; exact h2⟩
theorem DRs.mono {d : List DV} {x : List Deferred} (h : DRs S μ d x) : DRs S' μ' d x := by
  induction h with
  | nil => exact .nil
  | cons h _ ih => exact .cons (h.mono hn hμ) ih
theorem PRs.mono {d : List (V × Bool)} {x : List PanicEntry} (h : PRs S μ d x) : PRs S' μ' d x := by
  induction h with
  | nil => exact .nil
  | cons h _ ih => exact .cons (h.mono hn hμ) ih
theorem MR.mono {d : AM} {x : FrameMode} (h : MR S μ d x) : MR S' μ' d x := by
  cases d with
  | run => exact h
  | ret => exact h
  | pan ch => obtain ⟨ps, e, h⟩ := h; exact ⟨ps, e, h.mono hn hμ⟩
theorem real_mono {l : List AI} (h : ∀ x ∈ l, x.ok S) : l.map (AI.real μ') = l.map (AI.real μ) := by
  have _ := hn
  refine List.map_congr_left fun x hx => ?_
  have := h x hx
  cases x with
  | it i => rfl
  | rf l => simp only [AI.real, hμ l this]
  | erf l => simp only [AI.real, hμ l this]
theorem ok_mono {l : List AI} (h : ∀ x ∈ l, x.ok S) : ∀ x ∈ l, x.ok S' := fun x hx => by
  have _ := hμ
  have := h x hx
  cases x with
  | it i => trivial
  | rf l => exact hn l this
  | erf l => exact hn l this
theorem FR.mono {A : AF} {R : Frame} (h : FR S μ A R) : FR S' μ' A R where
  fn := h.fn
  tm := h.tm.mono hn hμ
  todo := h.todo.trans (real_mono hn hμ h.ok).symm
  ok := ok_mono hn hμ h.ok
  df := h.df.mono hn hμ
  md := h.md.mono hn hμ
  kd := h.kd
  rnd := by
    rw [h.rnd]
    cases hr : A.rnd with
    | none => rfl
    | some l => simp only [Option.map_some, hμ l (h.rok l hr)]
  rok l hl := hn l (h.rok l hl)
theorem FRs.mono {A : List AF} {R : List Frame} (h : FRs S μ A R) : FRs S' μ' A R := by
  induction h with
  | nil => exact .nil
  | cons h _ ih => exact .cons (h.mono hn hμ) ih
end

noncomputable section
/-- A value written out. -/
def fV {R : Type} (v : V) (k : V → R) : R :=
  match v with
  | .i kd n => fI n fun n => k (.i kd n)
  | .b x => fB x fun x => k (.b x)
  | v => k v
theorem fV_eq {R : Type} (v : V) (k : V → R) : fV v k = k v := by
  cases v <;> simp [fV, fI_eq, fB_eq]
/-- A temporary written. -/
def putT (nt : Nat) (F : T V) (dst : Option Tmp) (v : V) : Option (T V) :=
  match dst with
  | none => some F
  | some d => match Nat.blt d nt with | true => fV v fun v => F.putK d (some v) some | false => none
def undefV : V := .t []
/-- Is an operation wanted? -/
def wantedA (ops : Array Oper) (F : T V) (o : Oper) : Option Bool :=
  match o.guard with
  | none => some true
  | some (j, want) => match (ops[j]?).bind (·.dst) with
    | none => some false
    | some d => match F.at d with
      | some (.b t) => some (t == want)
      | some (.t _) => some false
      | _ => none
def exitA (id : Nat) : List AI → Option (List AI)
  | .it (.inBlock id') :: k => match Nat.beq id' id with | true => some k | false => exitA id k
  | _ :: k => exitA id k
  | [] => none
def gotoA (l : Nat) : List AI → Option (List AI)
  | .it (.inScope body) :: k => match findLabel body l with
    | some rest => some (.it (.code rest) :: .it (.inScope body) :: k)
    | none => gotoA l k
  | _ :: k => gotoA l k
  | [] => none
/-- A frame goes on behind what it waited for, with a value. -/
def finA (A : AF) (v : V) : Option AF :=
  match A with
  | ⟨fn, nt, F, todo, df, md, kd, rnd⟩ => match todo with
    | .it (.inRegion ops (i :: r)) :: k => match putT nt F ((ops[i]?).bind (·.dst)) v with | some F => some ⟨fn, nt, F, .it (.inRegion ops r) :: k, df, md, kd, rnd⟩ | none => none
    | .rf l :: k => some ⟨fn, nt, F, .erf l :: k, df, md, kd, rnd⟩
    | _ => none
def raiseA (A : AF) (ch : List (V × Bool)) : AF :=
  match A with
  | ⟨fn, nt, F, todo, df, md, kd, rnd⟩ => match md with
    | .pan ch' => ⟨fn, nt, F, todo, df, .pan (ch ++ ch'), kd, rnd⟩
    | _ => ⟨fn, nt, F, todo, df, .pan ch, kd, rnd⟩
def enterA (P : Program) (f : FuncId) (args : List V) (kd : Bool) : Option AF :=
  match P.funcs[f]? with
  | some fn => match fn.body with
    | some c => putNK args 0 .nil fun F => fN (args.length + (fn.ntmps - args.length)) fun nt => some ⟨f, nt, F, [.it (.code c)], [], .run, kd, none⟩
    | none => none
  | none => none
def resA (P : Program) (H : T O) (F : T V) (l : List ResultVar) : Option (List V) :=
  List.rec (motive := fun _ => Option (List V)) (some []) (fun x _ ih => match (match x with
    | .tmp t => F.at t
    | .cell a t => match F.at a with | some p => eLoad P H t p | none => none) with
    | none => none
    | some v => match ih with | none => none | some vs => some (v :: vs)) l
def resV (P : Program) (H : T O) (F : T V) (fn : FuncId) : Option V :=
  match P.funcs[fn]? with
  | some f => match resA P H F f.results.toList with | some [v] => some v | some vs => some (.t vs) | none => none
  | none => none
/-- Summaries of functions. -/
def Sums := FuncId → Option (List V → T O → Nat → Option (V × T O × Nat))
end
end Ev
end Go.Proofs.YtmlhijlcefogmaaGreatDoor
namespace Go.Proofs.YtmlhijlcefogmaaGreatDoor
namespace Ev

noncomputable section
def nx (fn : FuncId) (nt : Nat) (F : T V) (todo : List AI) (df : List DV) (md : AM) (kd : Bool) (rnd : Option Nat) (cs : List AF) (H : T O) (n : Nat) : Option Out := some (.next ⟨⟨fn, nt, F, todo, df, md, kd, rnd⟩, cs, H, n⟩)
def roundSt (j : Option Code) : LoopState := match j with | none => .ready | some _ => .done
/-- The way out of a frame. -/
def leaveA (fn : FuncId) (nt : Nat) (F : T V) (todo : List AI) (df : List DV) (kd : Bool) (rnd : Option Nat) (cs : List AF) (H : T O) (n : Nat) (jump : Option Code) : Option Out :=
  match rnd with
  | none => match jump with
    | none => nx fn nt F todo df .ret kd rnd cs H n
    | some .ret => nx fn nt F todo df .ret kd rnd cs H n
    | _ => none
  | some l => match H.at l, kd, cs with
    | some (.loop st pend fn' F' nt' ps asg body d), false, A :: cs => match finA A (.b jump.isNone) with
      | some A => H.putK l (some (.loop (roundSt jump) jump fn' F' nt' ps asg body d)) fun H => some (.next ⟨A, cs, H, n⟩)
      | none => none
    | _, _, _ => none
/-- Draws: how a region that draws its order is taken. -/
def Draws := FuncId → Nat → Array Oper → Nat → T V → T O → Nat → Option (T V × T O × Nat)
def callOk (P : Program) (f : FuncId) : Bool := match P.funcs[f]? with | some fn => fn.body.isSome && !(fn.name == "runtime.NumGoroutine") | none => false
def putPs (nt : Nat) : List Tmp → List V → T V → Option (T V)
  | t :: ts, v :: vs, F => match Nat.blt t nt with | true => F.putK t (some v) fun F => putPs nt ts vs F | false => none
  | [], [], F => some F
  | _, _, _ => none
def codeStep (P : Program) (dw : Draws) (lim : Nat) (fn : FuncId) (nt : Nat) (F : T V) (c : Code) (k : List AI) (df : List DV) (kd : Bool) (rnd : Option Nat) (cs : List AF) (H : T O) (n : Nat) : Option Out :=
  match c with
  | .skip => nx fn nt F k df .run kd rnd cs H n
  | .label _ => nx fn nt F k df .run kd rnd cs H n
  | .seq a b => nx fn nt F (.it (.code a) :: .it (.code b) :: k) df .run kd rnd cs H n
  | .cond x a b => match ev F x with
    | some (.b t) => nx fn nt F (.it (.code (match t with | true => a | false => b)) :: k) df .run kd rnd cs H n
    | _ => none
  | .block id b => nx fn nt F (.it (.code b) :: .it (.inBlock id) :: k) df .run kd rnd cs H n
  | .loop b => nx fn nt F (.it (.code b) :: .it (.inLoop b) :: k) df .run kd rnd cs H n
  | .scope b => nx fn nt F (.it (.code b) :: .it (.inScope b) :: k) df .run kd rnd cs H n
  | .exit id => match exitA id k with
    | some k' => nx fn nt F k' df .run kd rnd cs H n
    | none => leaveA fn nt F (.it (.code (.exit id)) :: k) df kd rnd cs H n (some (.exit id))
  | .goto l => match gotoA l k with
    | some k' => nx fn nt F k' df .run kd rnd cs H n
    | none => leaveA fn nt F (.it (.code (.goto l)) :: k) df kd rnd cs H n (some (.goto l))
  | .ret => leaveA fn nt F (.it (.code .ret) :: k) df kd rnd cs H n (some .ret)
  | .region id ops draw => match draw with
    | false => nx fn nt F (.it (.inRegion ops (List.range ops.size)) :: k) df .run kd rnd cs H n
    | true => match dw fn id ops nt F H n with
      | some (F, H, n) => nx fn nt F k df .run kd rnd cs H n
      | none => none
  | .rangeFunc f ps asg body => match ev F f, rnd, Nat.blt (n + 1) lim with
    | some (.f (.func g) caps), none, true => match callOk P g, enterA P g (.y (n + 1) :: caps) false with
      | true, some A => H.putK n (some (.dfr false)) fun H => H.putK (n + 1) (some (.loop .ready none fn F nt ps asg body n)) fun H => some (.next ⟨A, ⟨fn, nt, F, .rf (n + 1) :: k, .col n :: df, .run, kd, rnd⟩ :: cs, H, n + 2⟩)
      | _, _ => none
    | _, _, _ => none
  | .refuse _ => none
def opStepS (P : Program) (sm : Sums) (lim : Nat) (fn : FuncId) (nt : Nat) (F : T V) (ops : Array Oper) (i : Nat) (r : List Nat) (k : List AI) (df : List DV) (kd : Bool) (rnd : Option Nat) (cs : List AF) (H : T O) (n : Nat) : Option Out :=
  match ops[i]? with
  | none => none
  | some o => match wantedA ops F o with
    | none => none
    | some false => match putT nt F o.dst undefV with | some F => nx fn nt F (.it (.inRegion ops r) :: k) df .run kd rnd cs H n | none => none
    | some true => match Nat.blt n lim, evalOp P H n F o with
      | true, some x => match x with
        | .lt v => match putT nt F o.dst v with | some F => nx fn nt F (.it (.inRegion ops r) :: k) df .run kd rnd cs H n | none => none
        | .val v H n => match putT nt F o.dst v with | some F => nx fn nt F (.it (.inRegion ops r) :: k) df .run kd rnd cs H n | none => none
        | .call f args => match sm f with
          | some g => match g args H n with
            | some (v, H, n') => match putT nt F o.dst v, Nat.ble n' lim with | some F, true => nx fn nt F (.it (.inRegion ops r) :: k) df .run kd rnd cs H n' | _, _ => none
            | none => none
          | none => match enterA P f args false with
            | some A => some (.next ⟨A, ⟨fn, nt, F, .it (.inRegion ops (i :: r)) :: k, df, .run, kd, rnd⟩ :: cs, H, n⟩)
            | none => none
        | .dfr d => match rnd, putT nt F o.dst undefV with
          | none, some F => nx fn nt F (.it (.inRegion ops r) :: k) (d :: df) .run kd rnd cs H n
          | _, _ => none
        | .pan v => nx fn nt F (.it (.inRegion ops (i :: r)) :: k) df (.pan [(v, false)]) kd rnd cs H n
        | .rcv => match rnd, kd, cs with
          | none, false, _ => match putT nt F o.dst (.g .nilIface) with | some F => nx fn nt F (.it (.inRegion ops r) :: k) df .run kd rnd cs H n | none => none
          | none, true, ⟨fn', nt', F', todo', df', md', kd', rnd'⟩ :: cs' => match md' with
            | .pan ((v, false) :: older) => match putT nt F o.dst v with
              | some F => nx fn nt F (.it (.inRegion ops r) :: k) df .run kd rnd (⟨fn', nt', F', todo', df', .pan ((v, true) :: older), kd', rnd'⟩ :: cs') H n
              | none => none
            | .ret => match putT nt F o.dst (.g .nilIface) with | some F => nx fn nt F (.it (.inRegion ops r) :: k) df .run kd rnd cs H n | none => none
            | _ => none
          | _, _, _ => none
        | .rnd l args => match H.at l with
          | some (.loop _ _ fn' F' nt' ps asg body _) => match putPs nt' ps.toList args F' with
            | some F' => some (.next ⟨⟨fn', nt', F', [.it (.code asg), .it .beginRound, .it (.code body)], [], .run, false, some l⟩, ⟨fn, nt, F, .it (.inRegion ops (i :: r)) :: k, df, .run, kd, rnd⟩ :: cs, H, n⟩)
            | none => none
          | _ => none
      | _, _ => none
/-- The same, its arms by name. -/
def osOn (nt : Nat) (fn : FuncId) (F : T V) (ops : Array Oper) (r : List Nat) (k : List AI) (df : List DV) (kd : Bool) (rnd : Option Nat) (cs : List AF) (dst : Option Tmp) (v : V) (H : T O) (n : Nat) : Option Out :=
  match putT nt F dst v with | some F => nx fn nt F (.it (.inRegion ops r) :: k) df .run kd rnd cs H n | none => none
def osCall (P : Program) (sm : Sums) (lim : Nat) (fn : FuncId) (nt : Nat) (F : T V) (ops : Array Oper) (i : Nat) (r : List Nat) (k : List AI) (df : List DV) (kd : Bool) (rnd : Option Nat) (cs : List AF) (H : T O) (n : Nat) (o : Oper) (f : FuncId) (args : List V) : Option Out :=
  match sm f with
  | some g => match g args H n with
    | some (v, H, n') => match putT nt F o.dst v, Nat.ble n' lim with | some F, true => nx fn nt F (.it (.inRegion ops r) :: k) df .run kd rnd cs H n' | _, _ => none
    | none => none
  | none => match enterA P f args false with
    | some A => some (.next ⟨A, ⟨fn, nt, F, .it (.inRegion ops (i :: r)) :: k, df, .run, kd, rnd⟩ :: cs, H, n⟩)
    | none => none
def osDfr (P : Program) (sm : Sums) (lim : Nat) (fn : FuncId) (nt : Nat) (F : T V) (ops : Array Oper) (i : Nat) (r : List Nat) (k : List AI) (df : List DV) (kd : Bool) (rnd : Option Nat) (cs : List AF) (H : T O) (n : Nat) (o : Oper) (d : DV) : Option Out :=
  match rnd, putT nt F o.dst undefV with
  | none, some F => nx fn nt F (.it (.inRegion ops r) :: k) (d :: df) .run kd rnd cs H n
  | _, _ => none
def osRcv (P : Program) (sm : Sums) (lim : Nat) (fn : FuncId) (nt : Nat) (F : T V) (ops : Array Oper) (i : Nat) (r : List Nat) (k : List AI) (df : List DV) (kd : Bool) (rnd : Option Nat) (cs : List AF) (H : T O) (n : Nat) (o : Oper) : Option Out :=
  match rnd, kd, cs with
  | none, false, _ => match putT nt F o.dst (.g .nilIface) with | some F => nx fn nt F (.it (.inRegion ops r) :: k) df .run kd rnd cs H n | none => none
  | none, true, ⟨fn', nt', F', todo', df', md', kd', rnd'⟩ :: cs' => match md' with
    | .pan ((v, false) :: older) => match putT nt F o.dst v with
      | some F => nx fn nt F (.it (.inRegion ops r) :: k) df .run kd rnd (⟨fn', nt', F', todo', df', .pan ((v, true) :: older), kd', rnd'⟩ :: cs') H n
      | none => none
    | .ret => match putT nt F o.dst (.g .nilIface) with | some F => nx fn nt F (.it (.inRegion ops r) :: k) df .run kd rnd cs H n | none => none
    | _ => none
  | _, _, _ => none
def osRnd (P : Program) (sm : Sums) (lim : Nat) (fn : FuncId) (nt : Nat) (F : T V) (ops : Array Oper) (i : Nat) (r : List Nat) (k : List AI) (df : List DV) (kd : Bool) (rnd : Option Nat) (cs : List AF) (H : T O) (n : Nat) (o : Oper) (l : Nat) (args : List V) : Option Out :=
  match H.at l with
  | some (.loop _ _ fn' F' nt' ps asg body _) => match putPs nt' ps.toList args F' with
    | some F' => some (.next ⟨⟨fn', nt', F', [.it (.code asg), .it .beginRound, .it (.code body)], [], .run, false, some l⟩, ⟨fn, nt, F, .it (.inRegion ops (i :: r)) :: k, df, .run, kd, rnd⟩ :: cs, H, n⟩)
    | none => none
  | _ => none
def osNx (P : Program) (sm : Sums) (lim : Nat) (fn : FuncId) (nt : Nat) (F : T V) (ops : Array Oper) (i : Nat) (r : List Nat) (k : List AI) (df : List DV) (kd : Bool) (rnd : Option Nat) (cs : List AF) (H : T O) (n : Nat) (o : Oper) (x : Nx) : Option Out :=
  match x with
  | .lt v => osOn nt fn F ops r k df kd rnd cs o.dst v H n
  | .val v H n => osOn nt fn F ops r k df kd rnd cs o.dst v H n
  | .call f args => osCall P sm lim fn nt F ops i r k df kd rnd cs H n o f args
  | .dfr d => osDfr P sm lim fn nt F ops i r k df kd rnd cs H n o d
  | .pan v => nx fn nt F (.it (.inRegion ops (i :: r)) :: k) df (.pan [(v, false)]) kd rnd cs H n
  | .rcv => osRcv P sm lim fn nt F ops i r k df kd rnd cs H n o
  | .rnd l args => osRnd P sm lim fn nt F ops i r k df kd rnd cs H n o l args
def osRun (P : Program) (sm : Sums) (lim : Nat) (fn : FuncId) (nt : Nat) (F : T V) (ops : Array Oper) (i : Nat) (r : List Nat) (k : List AI) (df : List DV) (kd : Bool) (rnd : Option Nat) (cs : List AF) (H : T O) (n : Nat) (o : Oper) : Option Out := match Nat.blt n lim, evalOp P H n F o with | true, some x => osNx P sm lim fn nt F ops i r k df kd rnd cs H n o x | _, _ => none
def opStep (P : Program) (sm : Sums) (lim : Nat) (fn : FuncId) (nt : Nat) (F : T V) (ops : Array Oper) (i : Nat) (r : List Nat) (k : List AI) (df : List DV) (kd : Bool) (rnd : Option Nat) (cs : List AF) (H : T O) (n : Nat) : Option Out :=
  match ops[i]? with
  | none => none
  | some o => match wantedA ops F o with
    | none => none
    | some false => osOn nt fn F ops r k df kd rnd cs o.dst undefV H n
    | some true => osRun P sm lim fn nt F ops i r k df kd rnd cs H n o
def unwindStep (P : Program) (fn : FuncId) (nt : Nat) (F : T V) (todo : List AI) (df : List DV) (md : AM) (kd : Bool) (rnd : Option Nat) (cs : List AF) (H : T O) (n : Nat) : Option Out :=
  match df with
  | .col b :: ds => match H.at b with
    | some (.dfr false) => H.putK b (some (.dfr true)) fun H => nx fn nt F todo ds md kd rnd cs H n
    | _ => none
  | .fn (.func f) caps args :: ds => match callOk P f, enterA P f (appL args caps) true with
    | true, some A => some (.next ⟨A, ⟨fn, nt, F, todo, ds, md, kd, rnd⟩ :: cs, H, n⟩)
    | _, _ => none
  | _ :: _ => none
  | [] => match md with
    | .run => none
    | .ret => match resV P H F fn with
      | none => none
      | some v => match cs with
        | [] => match kd with | false => some (.done (.ret fn v H n)) | true => none
        | A :: cs => match kd with
          | false => match finA A v with | some A => some (.next ⟨A, cs, H, n⟩) | none => none
          | true => match A with
            | ⟨fn', nt', F', todo', df', md', kd', rnd'⟩ => match md' with
              | .pan ((_, true) :: _) => nx fn' nt' F' todo' df' .ret kd' rnd' cs H n
              | md' => nx fn' nt' F' todo' df' md' kd' rnd' cs H n
    | .pan ch => match P.funcs[fn]? with
      | none => none
      | some _ => match cs with
        | [] => match kd with | false => some (.done (.pan fn ch H n)) | true => none
        | A :: cs => some (.next ⟨raiseA A ch, cs, H, n⟩)
def astep (P : Program) (sm : Sums) (dw : Draws) (lim : Nat) (c : Cfg) : Option Out :=
  match c with
  | ⟨⟨fn, nt, F, todo, df, md, kd, rnd⟩, cs, H, n⟩ => match md with
    | .run => match todo with
      | [] => leaveA fn nt F [] df kd rnd cs H n none
      | .it i :: k => match i with
        | .code c => codeStep P dw lim fn nt F c k df kd rnd cs H n
        | .inBlock _ => nx fn nt F k df .run kd rnd cs H n
        | .inScope _ => nx fn nt F k df .run kd rnd cs H n
        | .inLoop b => nx fn nt F (.it (.code b) :: .it (.inLoop b) :: k) df .run kd rnd cs H n
        | .inRegion ops [] => nx fn nt F k df .run kd rnd cs H n
        | .inRegion ops (i :: r) => opStep P sm lim fn nt F ops i r k df kd rnd cs H n
        | .beginRound => match rnd with
          | some l => match H.at l with
            | some (.loop .ready pend fn' F' nt' ps asg body d) => H.putK l (some (.loop .busy pend fn' F' nt' ps asg body d)) fun H => nx fn nt F k df .run kd rnd cs H n
            | _ => none
          | none => none
        | _ => none
      | .erf l :: k => match H.at l with
        | some (.loop st pend fn' F' nt' ps asg body d) => match (match st with | .busy => false | _ => true) with
          | true => H.putK l (some (.loop .exhausted pend fn' F' nt' ps asg body d)) fun H => nx fn nt F (match pend with | some j => .it (.code j) :: k | none => k) df .run kd rnd cs H n
          | false => none
        | _ => none
      | .rf _ :: _ => none
    | md => unwindStep P fn nt F todo df md kd rnd cs H n
/-- The run: 'fuel' steps at most. -/
def runA (P : Program) (sm : Sums) (dw : Draws) (lim : Nat) (fuel : Nat) : Cfg → Option Res :=
  Nat.rec (motive := fun _ => Cfg → Option Res) (fun _ => none) (fun _ ih c => match astep P sm dw lim c with | none => none | some (.done r) => some r | some (.next c) => ih c) fuel
end
theorem opStep_eq (P : Program) (sm : Sums) (lim : Nat) (fn : FuncId) (nt : Nat) (F : T V) (ops : Array Oper) (i : Nat) (r : List Nat) (k : List AI) (df : List DV) (kd : Bool) (rnd : Option Nat) (cs : List AF) (H : T O) (n : Nat) : opStep P sm lim fn nt F ops i r k df kd rnd cs H n = opStepS P sm lim fn nt F ops i r k df kd rnd cs H n := by
  unfold opStep opStepS
  cases ops[i]? with
  | none => rfl
  | some o =>
    simp only
    cases wantedA ops F o with
    | none => rfl
    | some b =>
      cases b with
      | false => rfl
      | true =>
        simp only [osRun]
        cases Nat.blt n lim with
        | false => rfl
        | true =>
          cases evalOp P H n F o with
          | none => rfl
          | some x => cases x <;> rfl
end Ev
end Go.Proofs.YtmlhijlcefogmaaGreatDoor
