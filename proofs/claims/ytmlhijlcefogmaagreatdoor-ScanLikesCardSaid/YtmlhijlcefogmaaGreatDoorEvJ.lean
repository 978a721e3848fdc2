/-
  Evaluation of closed runs, part J: the operations together. No conditions; no program.
-/
import Derived.Test.YtmlhijlcefogmaaGreatDoorMerged20
set_option linter.unusedVariables false
set_option linter.unusedSimpArgs false
namespace Go.Proofs.YtmlhijlcefogmaaGreatDoor
namespace Ev

noncomputable section
def ltO (v : Option V) : Option Nx := match v with | some v => some (.lt v) | none => none
def nilOk (v : V) : Bool := match v with | .p _ _ | .it _ _ | .s _ _ _ _ _ _ | .m _ | .y _ => true | .f (.func _) _ => true | _ => false
def isEq (op : BinOp) : Option Bool := match op with | .eql => some true | .neq => some false | _ => none
/-- Is it nil? One of the two is the nil of its type, the other is none. -/
def nilOther (d : TypeDesc) (u v : V) : Bool :=
  match d, u, v with
  | .pointer _, .p _ _, .g (.pointer none) => true
  | .slice _, .s _ _ _ _ _ _, .g (.slice none _ _) => true
  | .map _ _, .m _, .g (.map none) => true
  | .func _ _ _, .f _ _, .g .nilFunc => true
  | .func _ _ _, .y _, .g .nilFunc => true
  | .interface _, .it _ _, .g .nilIface => true
  | _, _, _ => false
def eNil (P : Program) (op : BinOp) (t : TypeId) (u v : V) : Option V :=
  match P.underlying t, isEq op with
  | some d, some e => match nilOther d u v || nilOther d v u with | true => some (.b (!e)) | false => none
  | _, _ => none
/-- Pointers into one block. -/
def ePtr (P : Program) (op : BinOp) (t : TypeId) (u v : V) : Option V :=
  match P.underlying t, isEq op, u, v with
  | some (.pointer el), some e, .p b o, .p b' o' => match szOf P el, Nat.beq b b' with
    | some (_ + 1), true => fB (Nat.beq o o' == e) fun r => some (.b r)
    | _, _ => none
  | _, _, _, _ => none
def evalS (P : Program) (H : T O) (n : Nat) (F : T V) (o : Oper) : Option Nx :=
  match o.op with
  | .move x => ltO (ev F x)
  | .assign x => ltO (ev F x)
  | .pick c a b => match ev F c with | some (.b t) => ltO (match t with | true => ev F a | false => ev F b) | _ => none
  | .alloc t => eAlloc P H n t
  | .box t x => match ev F x with | some v => eBox H n t v | none => none
  | .build t parts => match evP F parts.toList with | some vs => ltO (eBuild P t vs) | none => none
  | .buildSlice t len parts => match evP F parts.toList with | some vs => eBuildS P H n t len vs | none => none
  | .load t x => match ev F x with | some v => ltO (eLoad P H t v) | none => none
  | .store t p x => match ev F p, ev F x with | some p, some v => (match eStore P H t p v with | some H => some (.val (.t []) H n) | none => none) | _, _ => none
  | .nilCheck x => match ev F x with | some v => (match nilOk v with | true => some (.lt v) | false => evG P o F) | none => none
  | .makeFunc fn first caps => match first.toList, evs F caps.toList with | [], some vs => some (.lt (.f fn vs)) | _, _ => none
  | .makeMap t r => match r with | none => eMakeMap P H n t none | some r => match ev F r with | some v => eMakeMap P H n t (some v) | none => none
  | .makeSlice t l c => match ev F l, ev F c with | some l, some c => eMake P H n t l c | _, _ => none
  | .slice t x lo hi mx => match ev F x with
    | some (.g _) => evG P o F
    | some (.str _) => evG P o F
    | some v => match (match lo with | none => some none | some x => (ev F x).map some), (match hi with | none => some none | some x => (ev F x).map some), (match mx with | none => some none | some x => (ev F x).map some) with
      | some lo, some hi, some mx => ltO (eSlice P H t v lo hi mx)
      | _, _, _ => none
    | none => none
  | .fieldAddr t x f => match ev F x with | some v => ltO (eFieldAddr P t v f) | none => none
  | .field t x f => match ev F x with | some v => ltO (eField P t v f) | none => none
  | .indexAddr t x ix => match ev F x, ev F ix with | some v, some i => ltO (eIndexAddr P t v i) | _, _ => none
  | .index t x ix => match ev F x, ev F ix with | some (.a cs), some i => ltO (eIndex P t (.a cs) i) | _, _ => evG P o F
  | .lookup t x ix ok => match ev F x, ev F ix with | some m, some k => ltO (eLookup P H t m k ok) | _, _ => none
  | .mapUpdate t m k x => match ev F m, ev F k, ev F x with | some m, some k, some v => (match eUpdate P H t m k v with | some H => some (.val (.t []) H n) | none => none) | _, _, _ => none
  | .insert t m k x => match ev F m, ev F k, ev F x with | some m, some k, some v => (match eUpdate P H t m k v with | some H => some (.val (.t []) H n) | none => none) | _, _, _ => none
  | .mapEntry t m k => match ev F m, ev F k with | some m, some k => eMapEntry P H n t m k | _, _ => none
  | .entryStore t m s x => match ev F m, ev F s, ev F x with | some m, some s, some v => eEntryStore H n m s v | _, _, _ => none
  | .range t x => match ev F x with | some v => eRange P H n t v | none => none
  | .next it st => match ev F it with | some v => eNext H n v st | none => none
  | .entry it => match ev F it with | some v => ltO (eEntry H v) | none => none
  | .extract x i => match ev F x with | some (.t vs) => ltO vs[i]? | _ => none
  | .makeInterface t x => match P.underlying t, ev F x with | some (.interface _), _ => none | some _, some v => some (.lt (.it t v)) | _, _ => none
  | .convert src dst x => match ev F x with
    | some (.str l) => match eS2B P H n src dst (.str l) with | some r => some r | none => evG P o F
    | some (.s b o' len cap z op) => ltO (eB2S P H src dst (.s b o' len cap z op))
    | some (.p b o') => ltO (eUns P H src dst b o')
    | _ => evG P o F
  | .binOp op t x y _ => match ev F x, ev F y with
    | some u, some v => match eInt op u v with
     | some r => some (.lt r)
     | none => match eNil P op t u v with
      | some r => some (.lt r)
      | none => match ePtr P op t u v with | some r => some (.lt r) | none => match eNan op H n u v with | some r => some r | none => evG P o F
    | _, _ => none
  | .call c => match evs F c.args.toList with
    | none => none
    | some args => match c.callee with
      | .value f => match ev F f with | some v => (match calleeOf P v args with | some r => some r | none => (match eExt P H v args with | some u => some (.lt u) | none => evG P o F)) | none => none
      | .builtin b => match b, args, c.argTypes.toList with
        | .append, [s, x], [t, tx] => eApp P H n t tx s x
        | .len, [x], [t] => match eLen P H t x with | some v => some (.lt v) | none => evG P o F
        | .cap, [x], [t] => match eCap P t x with | some v => some (.lt v) | none => evG P o F
        | .copy, [d, x], [t, tx] => match eCopy P H n t d x with | some r => some r | none => evG P o F
        | .recover, [], _ => some .rcv
        | .unsafeSliceData, [.s b o' _ cap _ _], [_] => (match Nat.blt 0 cap with | true => some (.lt (.p b o')) | false => none)
        | .unsafeString, [.p b o', .i .i64 (.ofNat m)], [t, tx] => eUStr P H n t b o' m
        | _, _, _ => evG P o F
      | _ => none
  | .defer c => match c.callee, evs F c.args.toList with
    | .value f, some args => match ev F f with | some v => eDefer v args | none => none
    | _, _ => none
  | .typeAssert x _ asserted ok => match ev F x with | some v => (match eAssert P asserted ok v with | some u => some (.lt u) | none => evG P o F) | none => none
  | .panic x => match ev F x with | some (.it t v) => some (.pan (.it t v)) | _ => evG P o F
  | _ => evG P o F
/-- The same, its arms by name: quicker to work out. -/
def eo_move (P : Program) (H : T O) (n : Nat) (F : T V) (o : Oper) (x : Operand) : Option Nx :=
    ltO (ev F x)

def eo_assign (P : Program) (H : T O) (n : Nat) (F : T V) (o : Oper) (x : Operand) : Option Nx :=
    ltO (ev F x)

def eo_pick (P : Program) (H : T O) (n : Nat) (F : T V) (o : Oper) (c : Operand) (a : Operand) (b : Operand) : Option Nx :=
    match ev F c with | some (.b t) => ltO (match t with | true => ev F a | false => ev F b) | _ => none

def eo_alloc (P : Program) (H : T O) (n : Nat) (F : T V) (o : Oper) (t : TypeId) : Option Nx :=
    eAlloc P H n t

def eo_box (P : Program) (H : T O) (n : Nat) (F : T V) (o : Oper) (t : TypeId) (x : Operand) : Option Nx :=
    match ev F x with | some v => eBox H n t v | none => none

def eo_build (P : Program) (H : T O) (n : Nat) (F : T V) (o : Oper) (t : TypeId) (parts : Array (Nat × Operand)) : Option Nx :=
    match evP F parts.toList with | some vs => ltO (eBuild P t vs) | none => none

def eo_buildSlice (P : Program) (H : T O) (n : Nat) (F : T V) (o : Oper) (t : TypeId) (len : Nat) (parts : Array (Nat × Operand)) : Option Nx :=
    match evP F parts.toList with | some vs => eBuildS P H n t len vs | none => none

def eo_load (P : Program) (H : T O) (n : Nat) (F : T V) (o : Oper) (t : TypeId) (x : Operand) : Option Nx :=
    match ev F x with | some v => ltO (eLoad P H t v) | none => none

def eo_store (P : Program) (H : T O) (n : Nat) (F : T V) (o : Oper) (t : TypeId) (p : Operand) (x : Operand) : Option Nx :=
    match ev F p, ev F x with | some p, some v => (match eStore P H t p v with | some H => some (.val (.t []) H n) | none => none) | _, _ => none

def eo_nilCheck (P : Program) (H : T O) (n : Nat) (F : T V) (o : Oper) (x : Operand) : Option Nx :=
    match ev F x with | some v => (match nilOk v with | true => some (.lt v) | false => evG P o F) | none => none

def eo_makeFunc (P : Program) (H : T O) (n : Nat) (F : T V) (o : Oper) (fn : Fn) (first : Array Operand) (caps : Array Operand) : Option Nx :=
    match first.toList, evs F caps.toList with | [], some vs => some (.lt (.f fn vs)) | _, _ => none

def eo_makeMap (P : Program) (H : T O) (n : Nat) (F : T V) (o : Oper) (t : TypeId) (r : Option Operand) : Option Nx :=
    match r with | none => eMakeMap P H n t none | some r => match ev F r with | some v => eMakeMap P H n t (some v) | none => none

def eo_makeSlice (P : Program) (H : T O) (n : Nat) (F : T V) (o : Oper) (t : TypeId) (l : Operand) (c : Operand) : Option Nx :=
    match ev F l, ev F c with | some l, some c => eMake P H n t l c | _, _ => none

def eo_slice (P : Program) (H : T O) (n : Nat) (F : T V) (o : Oper) (t : TypeId) (x : Operand) (lo : Option Operand) (hi : Option Operand) (mx : Option Operand) : Option Nx :=
    match ev F x with
    | some (.g _) => evG P o F
    | some (.str _) => evG P o F
    | some v => match (match lo with | none => some none | some x => (ev F x).map some), (match hi with | none => some none | some x => (ev F x).map some), (match mx with | none => some none | some x => (ev F x).map some) with
      | some lo, some hi, some mx => ltO (eSlice P H t v lo hi mx)
      | _, _, _ => none
    | none => none
def eo_fieldAddr (P : Program) (H : T O) (n : Nat) (F : T V) (o : Oper) (t : TypeId) (x : Operand) (f : Nat) : Option Nx :=
    match ev F x with | some v => ltO (eFieldAddr P t v f) | none => none

def eo_field (P : Program) (H : T O) (n : Nat) (F : T V) (o : Oper) (t : TypeId) (x : Operand) (f : Nat) : Option Nx :=
    match ev F x with | some v => ltO (eField P t v f) | none => none

def eo_indexAddr (P : Program) (H : T O) (n : Nat) (F : T V) (o : Oper) (t : TypeId) (x : Operand) (ix : Operand) : Option Nx :=
    match ev F x, ev F ix with | some v, some i => ltO (eIndexAddr P t v i) | _, _ => none

def eo_index (P : Program) (H : T O) (n : Nat) (F : T V) (o : Oper) (t : TypeId) (x : Operand) (ix : Operand) : Option Nx :=
    match ev F x, ev F ix with | some (.a cs), some i => ltO (eIndex P t (.a cs) i) | _, _ => evG P o F

def eo_lookup (P : Program) (H : T O) (n : Nat) (F : T V) (o : Oper) (t : TypeId) (x : Operand) (ix : Operand) (ok : Bool) : Option Nx :=
    match ev F x, ev F ix with | some m, some k => ltO (eLookup P H t m k ok) | _, _ => none

def eo_mapUpdate (P : Program) (H : T O) (n : Nat) (F : T V) (o : Oper) (t : TypeId) (m : Operand) (k : Operand) (x : Operand) : Option Nx :=
    match ev F m, ev F k, ev F x with | some m, some k, some v => (match eUpdate P H t m k v with | some H => some (.val (.t []) H n) | none => none) | _, _, _ => none

def eo_insert (P : Program) (H : T O) (n : Nat) (F : T V) (o : Oper) (t : TypeId) (m : Operand) (k : Operand) (x : Operand) : Option Nx :=
    match ev F m, ev F k, ev F x with | some m, some k, some v => (match eUpdate P H t m k v with | some H => some (.val (.t []) H n) | none => none) | _, _, _ => none

def eo_mapEntry (P : Program) (H : T O) (n : Nat) (F : T V) (o : Oper) (t : TypeId) (m : Operand) (k : Operand) : Option Nx :=
    match ev F m, ev F k with | some m, some k => eMapEntry P H n t m k | _, _ => none

def eo_entryStore (P : Program) (H : T O) (n : Nat) (F : T V) (o : Oper) (t : TypeId) (m : Operand) (s : Operand) (x : Operand) : Option Nx :=
    match ev F m, ev F s, ev F x with | some m, some s, some v => eEntryStore H n m s v | _, _, _ => none

def eo_range (P : Program) (H : T O) (n : Nat) (F : T V) (o : Oper) (t : TypeId) (x : Operand) : Option Nx :=
    match ev F x with | some v => eRange P H n t v | none => none

def eo_next (P : Program) (H : T O) (n : Nat) (F : T V) (o : Oper) (it : Operand) (st : Bool) : Option Nx :=
    match ev F it with | some v => eNext H n v st | none => none

def eo_entry (P : Program) (H : T O) (n : Nat) (F : T V) (o : Oper) (it : Operand) : Option Nx :=
    match ev F it with | some v => ltO (eEntry H v) | none => none

def eo_extract (P : Program) (H : T O) (n : Nat) (F : T V) (o : Oper) (x : Operand) (i : Nat) : Option Nx :=
    match ev F x with | some (.t vs) => ltO vs[i]? | _ => none

def eo_makeInterface (P : Program) (H : T O) (n : Nat) (F : T V) (o : Oper) (t : TypeId) (x : Operand) : Option Nx :=
    match P.underlying t, ev F x with | some (.interface _), _ => none | some _, some v => some (.lt (.it t v)) | _, _ => none

def eo_convert (P : Program) (H : T O) (n : Nat) (F : T V) (o : Oper) (src : TypeId) (dst : TypeId) (x : Operand) : Option Nx :=
    match ev F x with
    | some (.str l) => match eS2B P H n src dst (.str l) with | some r => some r | none => evG P o F
    | some (.s b o' len cap z op) => ltO (eB2S P H src dst (.s b o' len cap z op))
    | some (.p b o') => ltO (eUns P H src dst b o')
    | _ => evG P o F
def eo_binOp (P : Program) (H : T O) (n : Nat) (F : T V) (o : Oper) (op : BinOp) (t : TypeId) (x : Operand) (y : Operand) : Option Nx :=
    match ev F x, ev F y with
    | some u, some v => match eInt op u v with
     | some r => some (.lt r)
     | none => match eNil P op t u v with
      | some r => some (.lt r)
      | none => match ePtr P op t u v with | some r => some (.lt r) | none => match eNan op H n u v with | some r => some r | none => evG P o F
    | _, _ => none
def eo_call (P : Program) (H : T O) (n : Nat) (F : T V) (o : Oper) (c : Call) : Option Nx :=
    match evs F c.args.toList with
    | none => none
    | some args => match c.callee with
      | .value f => match ev F f with | some v => (match calleeOf P v args with | some r => some r | none => (match eExt P H v args with | some u => some (.lt u) | none => evG P o F)) | none => none
      | .builtin b => match b, args, c.argTypes.toList with
        | .append, [s, x], [t, tx] => eApp P H n t tx s x
        | .len, [x], [t] => match eLen P H t x with | some v => some (.lt v) | none => evG P o F
        | .cap, [x], [t] => match eCap P t x with | some v => some (.lt v) | none => evG P o F
        | .copy, [d, x], [t, tx] => match eCopy P H n t d x with | some r => some r | none => evG P o F
        | .recover, [], _ => some .rcv
        | .unsafeSliceData, [.s b o' _ cap _ _], [_] => (match Nat.blt 0 cap with | true => some (.lt (.p b o')) | false => none)
        | .unsafeString, [.p b o', .i .i64 (.ofNat m)], [t, tx] => eUStr P H n t b o' m
        | _, _, _ => evG P o F
      | _ => none
def eo_defer (P : Program) (H : T O) (n : Nat) (F : T V) (o : Oper) (c : Call) : Option Nx :=
    match c.callee, evs F c.args.toList with
    | .value f, some args => match ev F f with | some v => eDefer v args | none => none
    | _, _ => none
def eo_typeAssert (P : Program) (H : T O) (n : Nat) (F : T V) (o : Oper) (x : Operand) (asserted : TypeId) (ok : Bool) : Option Nx :=
    match ev F x with | some v => (match eAssert P asserted ok v with | some u => some (.lt u) | none => evG P o F) | none => none

def eo_panic (P : Program) (H : T O) (n : Nat) (F : T V) (o : Oper) (x : Operand) : Option Nx :=
    match ev F x with | some (.it t v) => some (.pan (.it t v)) | _ => evG P o F

def evalOp (P : Program) (H : T O) (n : Nat) (F : T V) (o : Oper) : Option Nx :=
  Op.rec (motive := fun _ => Program → T O → Nat → T V → Oper → Option Nx)
    (fun x P H n F o => eo_move P H n F o x)
    (fun x P H n F o => eo_assign P H n F o x)
    (fun c a b P H n F o => eo_pick P H n F o c a b)
    (fun t P H n F o => eo_alloc P H n F o t)
    (fun t x P H n F o => eo_box P H n F o t x)
    (fun t parts P H n F o => eo_build P H n F o t parts)
    (fun t len parts P H n F o => eo_buildSlice P H n F o t len parts)
    (fun t m k x P H n F o => eo_insert P H n F o t m k x)
    (fun t x P H n F o => eo_load P H n F o t x)
    (fun t p x P H n F o => eo_store P H n F o t p x)
    (fun _ P _ _ F o => evG P o F)
    (fun _ P _ _ F o => evG P o F)
    (fun x P H n F o => eo_nilCheck P H n F o x)
    (fun op t x y _ P H n F o => eo_binOp P H n F o op t x y)
    (fun _ _ _ P _ _ F o => evG P o F)
    (fun src dst x P H n F o => eo_convert P H n F o src dst x)
    (fun _ _ P _ _ F o => evG P o F)
    (fun t x P H n F o => eo_makeInterface P H n F o t x)
    (fun fn first caps P H n F o => eo_makeFunc P H n F o fn first caps)
    (fun t r P H n F o => eo_makeMap P H n F o t r)
    (fun _ _ P _ _ F o => evG P o F)
    (fun t l c P H n F o => eo_makeSlice P H n F o t l c)
    (fun t x lo hi mx P H n F o => eo_slice P H n F o t x lo hi mx)
    (fun t x f P H n F o => eo_fieldAddr P H n F o t x f)
    (fun t x f P H n F o => eo_field P H n F o t x f)
    (fun t x ix P H n F o => eo_indexAddr P H n F o t x ix)
    (fun t x ix P H n F o => eo_index P H n F o t x ix)
    (fun t x ix ok P H n F o => eo_lookup P H n F o t x ix ok)
    (fun t m k x P H n F o => eo_mapUpdate P H n F o t m k x)
    (fun t m k P H n F o => eo_mapEntry P H n F o t m k)
    (fun t m s x P H n F o => eo_entryStore P H n F o t m s x)
    (fun t x P H n F o => eo_range P H n F o t x)
    (fun it st P H n F o => eo_next P H n F o it st)
    (fun it P H n F o => eo_entry P H n F o it)
    (fun x _ asserted ok P H n F o => eo_typeAssert P H n F o x asserted ok)
    (fun x i P H n F o => eo_extract P H n F o x i)
    (fun c P H n F o => eo_call P H n F o c)
    (fun _ P _ _ F o => evG P o F)
    (fun c P H n F o => eo_defer P H n F o c)
    (fun x P H n F o => eo_panic P H n F o x)
    (fun _ _ P _ _ F o => evG P o F)
    (fun _ _ _ P _ _ F o => evG P o F)
    (fun _ _ P _ _ F o => evG P o F)
    o.op P H n F o
end

theorem evalOp_eq (P : Program) (H : T O) (n : Nat) (F : T V) (o : Oper) : evalOp P H n F o = evalS P H n F o := by
  unfold evalOp evalS
  cases o.op <;> rfl
theorem ltO_eq {v : Option V} {r : Nx} (h : ltO v = some r) : ∃ u, v = some u ∧ r = .lt u := by
  cases v with
  | none => cases h
  | some u => injection h with h; exact ⟨u, rfl, h.symm⟩
section
variable {P : Program} {G : Nat} {S : Nat → Prop} {μ : Nat → Loc} {w : World} {n : Nat}
theorem equal_eq (t : TypeId) (x y : Value) : ∃ d, Op.equal t x y = Op.equalIn (d + 1) t x y := ⟨9999, rfl⟩
theorem eNil_ok {op : BinOp} {t : TypeId} {u v r : V} {a b : Value} (he : eNil P op t u v = some r) (hu : VR S μ u a) (hv : VR S μ v b) (x y : Operand) :
    ∃ z, (do eqGuard op t x y a b; binOp op t a b : Sem Value).run P w = .ok z w ∧ VR S μ r z := by
  have key : ∀ (d : TypeDesc) (u v : V) (a b : Value), P.underlying t = some d → nilOther d u v = true → VR S μ u a → VR S μ v b → (Op.equal t a b).run P w = .ok false w ∧ (Op.equal t b a).run P w = .ok false w ∧ ∀ op, (isEq op).isSome = true →
      (eqGuard op t x y a b).run P w = .ok () w ∧ (eqGuard op t x y b a).run P w = .ok () w ∧ binOp op t a b = (do pure (.bool ((← Op.equal t a b) == (isEq op == some true)))) ∧ binOp op t b a = (do pure (.bool ((← Op.equal t b a) == (isEq op == some true)))) := by
    intro d u v a b hd hn hu hv
    unfold nilOther at hn
    split at hn
    case h_7 => cases hn
    all_goals
      cases hu
      cases hv
      refine ⟨?_, ?_, fun op hop => ?_⟩
      · obtain ⟨d, he⟩ := equal_eq t _ _
        rw [he, Op.equalIn]
        simp [run_underlying hd]
      · obtain ⟨d, he⟩ := equal_eq t _ _
        rw [he, Op.equalIn]
        simp [run_underlying hd]
      cases op <;> simp [isEq] at hop <;> refine ⟨by simp [eqGuard], by simp [eqGuard], ?_, ?_⟩ <;> simp [binOp, isEq]
  unfold eNil at he
  split at he
  case h_2 => cases he
  rename_i d e hd hop
  split at he
  case h_2 => cases he
  rename_i hno
  injection he with he
  subst he
  simp only [Bool.or_eq_true] at hno
  rcases hno with hno | hno
  · obtain ⟨k1, _, k3⟩ := key d u v a b hd hno hu hv
    obtain ⟨g1, _, g3, _⟩ := k3 op (by rw [hop]; rfl)
    refine ⟨.bool (!e), ?_, .b _⟩
    simp only [Sem.run_bind, g1, Result.andThen_ok, g3, k1, hop]
    cases e <;> rfl
  · obtain ⟨_, k1, k3⟩ := key d v u b a hd hno hv hu
    obtain ⟨_, g1, _, g3⟩ := k3 op (by rw [hop]; rfl)
    refine ⟨.bool (!e), ?_, .b _⟩
    simp only [Sem.run_bind, g1, Result.andThen_ok, g3, k1, hop]
    cases e <;> rfl
theorem ePtr_ok {op : BinOp} {t : TypeId} {u v r : V} {a b : Value} (he : ePtr P op t u v = some r) (hu : VR S μ u a) (hv : VR S μ v b) (x y : Operand) :
    ∃ z, (do eqGuard op t x y a b; binOp op t a b : Sem Value).run P w = .ok z w ∧ VR S μ r z := by
  unfold ePtr at he
  split at he
  case h_2 => cases he
  rename_i el e b1 o1 b2 o2 hd hop
  split at he
  case h_2 => cases he
  rename_i z hz hb
  have hb := Nat.eq_of_beq_eq_true hb
  subst hb
  rw [fB_eq] at he
  injection he with he
  subst he
  cases hu with
  | p _ _ h1 =>
    cases hv with
    | p _ _ h2 =>
      have heq : (Op.equal t (.pointer (some ⟨(μ b1).blk, (μ b1).sh + o1, none⟩)) (.pointer (some ⟨(μ b1).blk, (μ b1).sh + o2, none⟩))).run P w = .ok (Nat.beq o1 o2) w := by
        have : (decide (o1 = o2)) = Nat.beq o1 o2 := by
          cases h : Nat.beq o1 o2 with
          | true => simp [Nat.eq_of_beq_eq_true h]
          | false => simp; intro e; subst e; rw [Nat.beq_refl] at h; cases h
        obtain ⟨d, he⟩ := equal_eq t (.pointer (some ⟨(μ b1).blk, (μ b1).sh + o1, none⟩)) (.pointer (some ⟨(μ b1).blk, (μ b1).sh + o2, none⟩))
        rw [he, Op.equalIn]
        simp [run_underlying hd, szOf_run hz w, sameAddr, ← this]
        by_cases h : o1 = o2
        · subst h; simp
        · simp [h]
      refine ⟨_, ?_, .b _⟩
      cases op <;> simp [isEq] at hop <;> subst hop <;> simp [eqGuard, binOp, heq] <;> (try (cases Nat.beq o1 o2 <;> rfl))
theorem resolve_value {ρ : Operand → Value} {c : Call} {f : Operand} (hc : c.callee = .value f) (ty : TypeId) : resolve ρ c ty = Deferred.ofValue (ρ f) (c.args.map ρ) := by
  unfold resolve
  rw [hc]
theorem call_builtin {ρ : Operand → Value} {c : Call} {b : Builtin} (hc : c.callee = .builtin b) (ty : TypeId) (w : World) :
    (do let d ← resolve ρ c ty; invoke d.target d.args : Sem Next).run P w = (builtin b c.argTypes ty (c.args.map fun | .const _ => true | _ => false) (c.args.map ρ)).run P w := by
  simp only [resolve, hc]
  rfl
theorem evalOp_ok {H : T O} {F : T V} {o : Oper} {r : Nx} {ρ : Operand → Value} (he : evalOp P H n F o = some r) (hρ : ρOk S μ F ρ o.op.operands.toList) (hr : RH G S μ H.at w) (hn : ¬ S n) :
    OpOk P G S μ H.at ((execOp ρ o).run P w) w n r := by
  have ltR : ∀ {v : Option V} {r : Nx} {s : Sem Value}, ltO v = some r → (∀ u, v = some u → ∃ y, s.run P w = .ok y w ∧ VR S μ u y) → OpOk P G S μ H.at ((do pure (Next.value (← s)) : Sem Next).run P w) w n r := by
    intro v r s h hs
    obtain ⟨u, hu, rfl⟩ := ltO_eq h
    obtain ⟨y, h1, h2⟩ := hs u hu
    exact ⟨y, by simp [h1], h2⟩
  rw [evalOp_eq] at he
  unfold evalS at he
  split at he
  · -- move
    rename_i x ho
    obtain ⟨u, hu, rfl⟩ := ltO_eq he
    exact ⟨_, by simp only [execOp, ho]; rfl, hρ x (by simp [ho, Op.operands]) u hu⟩
  · rename_i x ho
    obtain ⟨u, hu, rfl⟩ := ltO_eq he
    exact ⟨_, by simp only [execOp, ho]; rfl, hρ x (by simp [ho, Op.operands]) u hu⟩
  · -- pick
    rename_i c a b ho
    split at he
    case h_2 => cases he
    rename_i t hc
    obtain ⟨u, hu, rfl⟩ := ltO_eq he
    have h1 := hρ c (by simp [ho, Op.operands]) _ hc
    generalize hcv : ρ c = cv at h1
    cases h1
    refine ⟨if t then ρ a else ρ b, by simp [execOp, ho, hcv, asBool], ?_⟩
    cases t
    · exact hρ b (by simp [ho, Op.operands]) u hu
    · exact hρ a (by simp [ho, Op.operands]) u hu
  · rename_i t ho
    exact eAlloc_ok he hr hn ho
  · rename_i t x ho
    split at he
    case h_2 => cases he
    rename_i v hv
    exact eBox_ok he hr hn ho (hρ x (by simp [ho, Op.operands]) v hv)
  · -- build
    rename_i t parts ho
    split at he
    case h_2 => cases he
    rename_i vs hvs
    obtain ⟨u, hu, rfl⟩ := ltO_eq he
    exact eBuild_ok hvs hu ho hρ
  · rename_i t len parts ho
    split at he
    case h_2 => cases he
    rename_i vs hvs
    exact eBuildS_ok hvs he hr hn ho hρ
  · -- load
    rename_i t x ho
    split at he
    case h_2 => cases he
    rename_i v hv
    simp only [execOp, ho]
    exact ltR he fun u hu => eLoad_ok hu hr (hρ x (by simp [ho, Op.operands]) v hv)
  · -- store
    rename_i t p x ho
    split at he
    case h_2 => cases he
    rename_i pv v hp hv
    split at he
    case h_2 => cases he
    rename_i H' hst
    injection he with he
    subst he
    obtain ⟨w', h1, h2, h3⟩ := eStore_ok (n := n) hst hr (hρ p (by simp [ho, Op.operands]) pv hp) (hρ x (by simp [ho, Op.operands]) v hv)
    exact ⟨undef, w', S, μ, .inr ⟨by simp only [execOp, ho, Sem.run_bind, h1]; rfl, rfl⟩, .t [] [] .nil, h2, h3⟩
  · -- nilCheck
    rename_i x ho
    split at he
    case h_2 => cases he
    rename_i v hv
    split at he
    · rename_i hok
      injection he with he
      subst he
      have h1 := hρ x (by simp [ho, Op.operands]) v hv
      refine ⟨ρ x, ?_, h1⟩
      simp only [execOp, ho]
      generalize ρ x = xv at h1
      cases h1 <;> simp [nilOk] at hok <;> try rfl
      rename_i fn caps cs hcs
      cases fn <;> simp [nilOk] at hok
      rfl
    · exact evG_ok he hρ
  · -- makeFunc
    rename_i fn first caps ho
    split at he
    case h_2 => cases he
    rename_i vs hf hvs
    injection he with he
    subst he
    have h1 := evs_ok hvs (fun x hx v hv => hρ x (by simp [ho, Op.operands]; exact .inr (by simpa using hx)) v hv)
    have hfirst : first = #[] := by apply Array.ext'; simpa using hf
    refine ⟨_, ?_, .f fn vs _ h1⟩
    simp [execOp, ho, Instr.makeFunc, hfirst]
    apply Array.ext'
    simp
  · -- makeMap
    rename_i t q ho
    split at he
    · have := eMakeMap_ok (x := none) he hr hn trivial
      simp only [execOp, ho, Sem.run_bind]
      exact this
    · rename_i q
      split at he
      case h_2 => cases he
      rename_i v hv
      have := eMakeMap_ok (x := some (ρ q)) he hr hn (hρ q (by simp [ho, Op.operands]) v hv)
      simp only [execOp, ho, Sem.run_bind]
      exact this
  · -- makeSlice
    rename_i t l c ho
    split at he
    case h_2 => cases he
    rename_i lv cv hl hc
    exact eMake_ok he hr hn ho (hρ l (by simp [ho, Op.operands]) lv hl) (hρ c (by simp [ho, Op.operands]) cv hc)
  · -- slice
    rename_i t x lo hi mx ho
    split at he
    · exact evG_ok he hρ
    · exact evG_ok he hρ
    · rename_i v _ _ hv
      split at he
      case h_2 => cases he
      rename_i lov hiv mxv hlo hhi hmx
      have hOV : ∀ (q : Option Operand) (qv : Option V), (∀ y, q = some y → y ∈ o.op.operands.toList) → (match q with | none => some none | some x => (ev F x).map some) = some qv → OV S μ qv (q.map ρ) := by
        intro q qv hq h
        cases q with
        | none => injection h with h; subst h; trivial
        | some y =>
          simp only [Option.map_eq_some_iff] at h
          obtain ⟨u, hu, rfl⟩ := h
          exact hρ y (hq y rfl) u hu
      have h1 := hOV lo lov (fun y hy => by simp [ho, Op.operands, hy]) hlo
      have h2 := hOV hi hiv (fun y hy => by simp [ho, Op.operands, hy]) hhi
      have h3 := hOV mx mxv (fun y hy => by simp [ho, Op.operands, hy]) hmx
      simp only [execOp, ho]
      exact ltR he fun u hu => eSlice_ok hu hr (hρ x (by simp [ho, Op.operands]) v hv) h1 h2 h3
    · cases he
  · rename_i t x f ho
    split at he
    case h_2 => cases he
    rename_i v hv
    simp only [execOp, ho]
    exact ltR he fun u hu => eFieldAddr_ok hu (hρ x (by simp [ho, Op.operands]) v hv)
  · rename_i t x f ho
    split at he
    case h_2 => cases he
    rename_i v hv
    simp only [execOp, ho]
    exact ltR he fun u hu => eField_ok hu (hρ x (by simp [ho, Op.operands]) v hv)
  · rename_i t x ix ho
    split at he
    case h_2 => cases he
    rename_i v i hv hi
    simp only [execOp, ho]
    exact ltR he fun u hu => eIndexAddr_ok hu (hρ x (by simp [ho, Op.operands]) v hv) (hρ ix (by simp [ho, Op.operands]) i hi)
  · rename_i t x ix ho
    split at he
    · rename_i cs i hv hi
      simp only [execOp, ho]
      exact ltR he fun u hu => eIndex_ok hu (hρ x (by simp [ho, Op.operands]) _ hv) (hρ ix (by simp [ho, Op.operands]) i hi)
    · exact evG_ok he hρ
  · -- lookup
    rename_i t x ix ok ho
    split at he
    case h_2 => cases he
    rename_i m k hm hk
    simp only [execOp, ho]
    exact ltR he fun u hu => eLookup_ok hu hr (hρ x (by simp [ho, Op.operands]) m hm) (hρ ix (by simp [ho, Op.operands]) k hk)
  · -- mapUpdate
    rename_i t m k x ho
    split at he
    case h_2 => cases he
    rename_i mv kv v hm hk hv
    split at he
    case h_2 => cases he
    rename_i H' hst
    injection he with he
    subst he
    obtain ⟨w', h1, h2, h3⟩ := eUpdate_ok (n := n) hst hr (hρ m (by simp [ho, Op.operands]) mv hm) (hρ k (by simp [ho, Op.operands]) kv hk) (hρ x (by simp [ho, Op.operands]) v hv)
    exact ⟨undef, w', S, μ, .inr ⟨by simp only [execOp, ho, Sem.run_bind, h1]; rfl, rfl⟩, .t [] [] .nil, h2, h3⟩
  · rename_i t m k x ho
    split at he
    case h_2 => cases he
    rename_i mv kv v hm hk hv
    split at he
    case h_2 => cases he
    rename_i H' hst
    injection he with he
    subst he
    obtain ⟨w', h1, h2, h3⟩ := eUpdate_ok (n := n) hst hr (hρ m (by simp [ho, Op.operands]) mv hm) (hρ k (by simp [ho, Op.operands]) kv hk) (hρ x (by simp [ho, Op.operands]) v hv)
    exact ⟨undef, w', S, μ, .inr ⟨by simp only [execOp, ho, Sem.run_bind, h1]; rfl, rfl⟩, .t [] [] .nil, h2, h3⟩
  · -- mapEntry
    rename_i t m k ho
    split at he
    case h_2 => cases he
    rename_i mv kv hm hk
    have := eMapEntry_ok he hr (hρ m (by simp [ho, Op.operands]) mv hm) (hρ k (by simp [ho, Op.operands]) kv hk)
    simp only [execOp, ho, Sem.run_bind]
    exact this
  · rename_i t m s x ho
    split at he
    case h_2 => cases he
    rename_i mv sv v hm hs hv
    have := eEntryStore_ok (P := P) (t := t) he hr (hρ m (by simp [ho, Op.operands]) mv hm) (hρ s (by simp [ho, Op.operands]) sv hs) (hρ x (by simp [ho, Op.operands]) v hv)
    simp only [execOp, ho, Sem.run_bind]
    exact this
  · rename_i t x ho
    split at he
    case h_2 => cases he
    rename_i v hv
    have := eRange_ok (P := P) he hr hn (hρ x (by simp [ho, Op.operands]) v hv)
    simp only [execOp, ho, Sem.run_bind]
    exact this
  · rename_i it st ho
    split at he
    case h_2 => cases he
    rename_i v hv
    have := eNext_ok (P := P) (ty := o.type) he hr (hρ it (by simp [ho, Op.operands]) v hv)
    simp only [execOp, ho, Sem.run_bind]
    exact this
  · rename_i it ho
    split at he
    case h_2 => cases he
    rename_i v hv
    simp only [execOp, ho]
    exact ltR he fun u hu => eEntry_ok hu hr (hρ it (by simp [ho, Op.operands]) v hv)
  · -- extract
    rename_i x i ho
    split at he
    case h_2 => cases he
    rename_i vs hv
    have h1 := hρ x (by simp [ho, Op.operands]) _ hv
    simp only [execOp, ho]
    refine ltR he fun u hu => ?_
    generalize ρ x = xv at h1
    cases h1 with
    | t _ cs hcs =>
      obtain ⟨y, hy, hr⟩ := hcs.at i u hu
      exact ⟨y, by simp [Instr.extract, hy], hr⟩
  · -- makeInterface
    rename_i t x ho
    split at he
    · cases he
    · rename_i d v hni hd hv
      injection he with he
      subst he
      refine ⟨_, ?_, .it t v (ρ x) (hρ x (by simp [ho, Op.operands]) v hv)⟩
      simp only [execOp, ho, Sem.run_bind, Instr.makeInterface, run_underlying hd, Result.andThen_ok]
      cases d <;> first | rfl | exact absurd rfl (hni _)
    · cases he
  · -- convert
    rename_i src dst x ho
    split at he
    · rename_i l hv
      split at he
      · rename_i r' hs
        injection he with he
        subst he
        have := eS2B_ok (r := r') hs hr hn (hρ x (by simp [ho, Op.operands]) _ hv)
        simp only [execOp, ho, Sem.run_bind]
        exact this
      · exact evG_ok he hρ
    · rename_i b o' len cap z op hv
      simp only [execOp, ho]
      exact ltR he fun u hu => eB2S_ok hu hr (hρ x (by simp [ho, Op.operands]) _ hv)
    · rename_i b o' hv
      simp only [execOp, ho]
      exact ltR he fun u hu => ⟨_, eUns_ok hu hr (hρ x (by simp [ho, Op.operands]) _ hv)⟩
    · exact evG_ok he hρ
  · -- binOp
    rename_i op t x y ty ho
    split at he
    case h_2 => cases he
    rename_i u v hu hv
    have h1 := hρ x (by simp [ho, Op.operands]) u hu
    have h2 := hρ y (by simp [ho, Op.operands]) v hv
    split at he
    · rename_i r' hr'
      injection he with he
      subst he
      obtain ⟨z, k1, k2⟩ := eInt_ok (P := P) (t := t) (w := w) hr' h1 h2 x y
      exact ⟨z, by simp only [execOp, ho]; rw [Sem.run_bind, k1]; rfl, k2⟩
    split at he
    · rename_i r' hr'
      injection he with he
      subst he
      obtain ⟨z, k1, k2⟩ := eNil_ok (w := w) hr' h1 h2 x y
      exact ⟨z, by simp only [execOp, ho]; rw [Sem.run_bind, k1]; rfl, k2⟩
    · split at he
      · rename_i r' hr'
        injection he with he
        subst he
        obtain ⟨z, k1, k2⟩ := ePtr_ok (w := w) hr' h1 h2 x y
        exact ⟨z, by simp only [execOp, ho]; rw [Sem.run_bind, k1]; rfl, k2⟩
      · split at he
        · rename_i r' hr'
          injection he with he
          subst he
          simp only [execOp, ho]
          have := eNan_ok (P := P) (t := t) hr' h1 h2 hr x y
          simpa using this
        · exact evG_ok he hρ
  · -- call
    rename_i c ho
    split at he
    · cases he
    · rename_i args hargs
      have hops : ∀ x ∈ c.args.toList, x ∈ o.op.operands.toList := fun x hx => by
        simp only [ho, Op.operands, Call.operands, Array.toList_append, List.mem_append]
        exact .inr hx
      have hvs := evs_ok hargs (fun x hx v hv => hρ x (hops x hx) v hv)
      split at he
      · rename_i f hc
        split at he
        case h_2 => cases he
        rename_i v hv
        have hf := hρ f (by simp [ho, Op.operands, Call.operands, hc]) v hv
        split at he
        · rename_i r' hr'
          injection he with he
          subst he
          simp only [execOp, ho, resolve_value hc]
          exact calleeOf_ok hr' hf (by simpa using hvs)
        · split at he
          · rename_i u hu
            injection he with he
            subst he
            simp only [execOp, ho, resolve_value hc]
            exact eExt_ok hu hr hf (by simpa using hvs)
          · exact evG_ok he hρ
      · rename_i b hc
        have hb : (execOp ρ o).run P w = (builtin b c.argTypes o.type (c.args.map fun | .const _ => true | _ => false) (c.args.map ρ)).run P w := by
          simp only [execOp, ho]
          exact call_builtin hc o.type w
        split at he
        · -- append
          rename_i s x t tx hty
          have ha : ∃ sv xv, c.args.map ρ = #[sv, xv] ∧ VR S μ s sv ∧ VR S μ x xv := by
            cases hvs' : c.args.toList.map ρ with
            | nil => rw [hvs'] at hvs; cases hvs
            | cons sv r1 =>
              rw [hvs'] at hvs
              cases hvs with
              | cons h1 hs1 =>
                cases hs1 with
                | cons h2 hs2 =>
                  cases hs2
                  exact ⟨sv, _, by apply Array.ext'; simpa using hvs', h1, h2⟩
          obtain ⟨sv, xv, e1, h1, h2⟩ := ha
          have hty' : c.argTypes = #[t, tx] := by apply Array.ext'; simpa using hty
          refine eApp_ok he hr hn h1 h2 (ty := o.type) ?_
          rw [hb, e1, hty']
          simp [builtin]
        · rename_i x t hty
          have ha : ∃ xv, c.args.map ρ = #[xv] ∧ VR S μ x xv := by
            cases hvs' : c.args.toList.map ρ with
            | nil => rw [hvs'] at hvs; cases hvs
            | cons sv r1 =>
              rw [hvs'] at hvs
              cases hvs with
              | cons h1 hs1 => cases hs1; exact ⟨sv, by apply Array.ext'; simpa using hvs', h1⟩
          obtain ⟨xv, e1, h1⟩ := ha
          have hty' : c.argTypes = #[t] := by apply Array.ext'; simpa using hty
          split at he
          · rename_i u hu
            injection he with he
            subst he
            obtain ⟨z, k1, k2⟩ := eLen_ok (ty := o.type) hu hr h1
            exact ⟨z, by rw [hb, e1, hty']; simp [builtin, k1], k2⟩
          · exact evG_ok he hρ
        · rename_i x t hty
          have ha : ∃ xv, c.args.map ρ = #[xv] ∧ VR S μ x xv := by
            cases hvs' : c.args.toList.map ρ with
            | nil => rw [hvs'] at hvs; cases hvs
            | cons sv r1 =>
              rw [hvs'] at hvs
              cases hvs with
              | cons h1 hs1 => cases hs1; exact ⟨sv, by apply Array.ext'; simpa using hvs', h1⟩
          obtain ⟨xv, e1, h1⟩ := ha
          have hty' : c.argTypes = #[t] := by apply Array.ext'; simpa using hty
          split at he
          · rename_i u hu
            injection he with he
            subst he
            obtain ⟨z, k1, k2⟩ := eCap_ok (w := w) (ty := o.type) hu h1
            exact ⟨z, by rw [hb, e1, hty']; simp [builtin, k1], k2⟩
          · exact evG_ok he hρ
        · -- copy
          rename_i s x t tx hty
          have ha : ∃ sv xv, c.args.map ρ = #[sv, xv] ∧ VR S μ s sv ∧ VR S μ x xv := by
            cases hvs' : c.args.toList.map ρ with
            | nil => rw [hvs'] at hvs; cases hvs
            | cons sv r1 =>
              rw [hvs'] at hvs
              cases hvs with
              | cons h1 hs1 =>
                cases hs1 with
                | cons h2 hs2 =>
                  cases hs2
                  exact ⟨sv, _, by apply Array.ext'; simpa using hvs', h1, h2⟩
          obtain ⟨sv, xv, e1, h1, h2⟩ := ha
          have hty' : c.argTypes = #[t, tx] := by apply Array.ext'; simpa using hty
          split at he
          · rename_i r' hr'
            injection he with he
            subst he
            have := eCopy_ok (ty := o.type) (tx := tx) hr' hr h1 h2
            rw [hb, e1, hty']
            simpa [builtin] using this
          · exact evG_ok he hρ
        · injection he with he
          subst he
          show _ = _
          rw [hb]
          simp [builtin]
        · -- unsafeSliceData
          rename_i b o' len cap z op at' hty
          split at he
          · rename_i hc
            injection he with he
            subst he
            have hc := blt_lt hc
            obtain ⟨xv, e1, h1⟩ : ∃ xv, c.args.map ρ = #[xv] ∧ VR S μ (.s b o' len cap z op) xv := by
              cases hvs' : c.args.toList.map ρ with
              | nil => rw [hvs'] at hvs; cases hvs
              | cons sv r1 =>
                rw [hvs'] at hvs
                cases hvs with
                | cons h1 hs1 =>
                  cases hs1
                  exact ⟨sv, by apply Array.ext'; simpa using hvs', h1⟩
            cases h1 with
            | s _ _ _ _ _ _ cap' h hl hc2 he2 hs =>
              refine ⟨_, ?_, .p b o' h⟩
              rw [hb, e1]
              simp [builtin, Lib.run_unsafeSliceData_row w c.argTypes o.type _ len cap' (by omega)]
          · cases he
        · -- unsafeString
          rename_i b o' m t tx hty
          obtain ⟨pv, xv, e1, h1, h2⟩ : ∃ pv xv, c.args.map ρ = #[pv, xv] ∧ VR S μ (.p b o') pv ∧ VR S μ (.i .i64 (.ofNat m)) xv := by
            cases hvs' : c.args.toList.map ρ with
            | nil => rw [hvs'] at hvs; cases hvs
            | cons sv r1 =>
              rw [hvs'] at hvs
              cases hvs with
              | cons h1 hs1 =>
                cases hs1 with
                | cons h2 hs2 =>
                  cases hs2
                  exact ⟨sv, _, by apply Array.ext'; simpa using hvs', h1, h2⟩
          have hty' : c.argTypes = #[t, tx] := by apply Array.ext'; simpa using hty
          have := eUStr_ok (it := tx) (ty := o.type) he hr h1
          rw [← vr_int h2] at this
          rw [hb, e1, hty']
          simpa [builtin] using this
        · exact evG_ok he hρ
      · cases he
  · -- defer
    rename_i c ho
    split at he
    · rename_i f args hc hargs
      split at he
      case h_2 => cases he
      rename_i v hv
      have hops : ∀ x ∈ c.args.toList, x ∈ o.op.operands.toList := fun x hx => by
        simp only [ho, Op.operands, Call.operands, Array.toList_append, List.mem_append]
        exact .inr hx
      have hvs := evs_ok hargs (fun x hx v hv => hρ x (hops x hx) v hv)
      have hf := hρ f (by simp [ho, Op.operands, Call.operands, hc]) v hv
      simp only [execOp, ho, resolve_value hc]
      exact eDefer_ok he hf (by simpa using hvs)
    · cases he
  · -- typeAssert
    rename_i x xt asserted ok ho
    split at he
    case h_2 => cases he
    rename_i v hv
    split at he
    · rename_i u hu
      injection he with he
      subst he
      have hf := hρ x (by simp [ho, Op.operands]) _ hv
      obtain ⟨y, h1, h2⟩ := eAssert_ok (xt := xt) (w := w) hu hf
      refine ⟨y, ?_, h2⟩
      simp [execOp, ho, h1]
    · exact evG_ok he hρ
  · -- panic
    rename_i x ho
    split at he
    · rename_i t v hv
      injection he with he
      subst he
      have hf := hρ x (by simp [ho, Op.operands]) _ hv
      refine ⟨ρ x, ?_, hf⟩
      simp only [execOp, ho]
      generalize ρ x = y at hf
      cases hf
      simp [Instr.panic, goPanic]
    · exact evG_ok he hρ
  · exact evG_ok he hρ
end
end Ev
end Go.Proofs.YtmlhijlcefogmaaGreatDoor
