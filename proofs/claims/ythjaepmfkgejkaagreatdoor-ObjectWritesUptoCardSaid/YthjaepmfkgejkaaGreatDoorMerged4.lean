/-
  Steps of a region taken by hand, in fewer words. Conditions: none.
  The model's decoder of UTF-8 by its bytes as numbers: which case a place of a string is in, and what the decoder gives there. No conditions; no program.
  The reference's way to a rune (try one to four bytes, write what comes out, compare) finds just what the model's decoder finds. No conditions; no program.
  Plain facts on strings as lists of bytes: equality, cuts, the bytes as numbers. No conditions; no program.
  Numbers, texts and ids as bytes, as plain functions: written, read; what is read is just what was written. No conditions; no program.
  Ids, refs and keys of the program: compared cell by cell; read from what came in. Conditions: the values are well formed, as each says.
-/
import Derived.Shelf.Abstract
import Derived.Test.YthjaepmfkgejkaaGreatDoorMerged3
import Derived.Laws.RangeAny
import Derived.Laws.BytesArg
import Derived.Lib.Strings
import Derived.Lib.RabinKarpLaws
import Derived.Lib.SmallJoins
import Derived.Test.YthjaepmfkgejkaaGreatDoorProg
import Derived.Test.YthjaepmfkgejkaaGreatDoorMerged2
set_option linter.unusedVariables false
set_option maxRecDepth 100000
namespace Go.Proofs.YthjaepmfkgejkaaGreatDoor
open Go.RowKit
section
variable {P : Program} {md : Region.Mode} {ops : Array Oper} {Q : Exit → Act → World → Prop} {n : Nat} {F : World → Prop}
theorem tk (i : Nat) (v : Value) {oi : Oper} {fuel : Nat} {listed : Array Bool} {a : Act} {w : World} (hi : Z0 ops.toList i = some oi) (hv : ∀ w' : World, True → (execOp a.eval oi).run P w' = .ok (.value v) w')
    (h : jB P md ops Q n F fuel (listed.setIfInBounds i true) (a.put oi.dst v) w) (hB : tkB md ops listed i = true := by kernel_rfl) (hQ : ∀ c a w, Q (.panic c) (a.put oi.dst v) w → Q (.panic c) a w := by exact fun _ _ _ h => h)
    (hw : Region.wanted oi (yielded ops a.tmps) = true := by rfl) : jB P md ops Q n F (fuel + 1) listed a w := tkW i v hB hi hQ hw hv h
theorem tl (i : Nat) (v : Value) {oi : Oper} {fuel : Nat} {listed : Array Bool} {a : Act} {w : World} (hi : Z0 ops.toList i = some oi) (hF : F w) (hv : ∀ w' : World, F w' → (execOp a.eval oi).run P w' = .ok (.value v) w')
    (h : jB P md ops Q n F fuel (listed.setIfInBounds i true) (a.put oi.dst v) w) (hB : (lateB md ops n i && tkB md ops listed i) = true := by kernel_rfl) (hQ : ∀ c a w, Q (.panic c) (a.put oi.dst v) w → Q (.panic c) a w := by exact fun _ _ _ h => h)
    (hw : Region.wanted oi (yielded ops a.tmps) = true := by rfl) : jB P md ops Q n F (fuel + 1) listed a w := tkF i v hB hi hQ hw hF hv h
theorem tc {i : Nat} {K : Act → World → Prop} {a : Act} {w : World} {f : FuncId} {o : Oper} {xs : Array Operand} {ts : Array TypeId} (args : Array Value) (hE : ∀ (u : World) (args : Array Value), (callFunc f args).run P u = .ok (.enter f args) u) (hi : Z0 ops.toList i = some o)
    (hc : Calls P f args w fun e w' => ∃ v, e = .returned v ∧ K (a.put o.dst v) w') (ho : o.op = .call { callee := .value (.func f), args := xs, argTypes := ts } := by rfl) (hf : a.eval (.func f) = .func (.func f) #[] #[] := by rfl)
    (hw : Region.wanted o (yielded ops a.tmps) = true := by kernel_rfl) (ha : xs.map a.eval = args := by simp only [List.map_toArray, List.map_cons, List.map_nil]; rfl) : wpOp P ops Q i K a w :=
  JF o hi hw (J6 ho hf (fun args w => hE w args) ha) hc
end
theorem l1 {P : Program} {ρ : Operand → Value} {o : Oper} {w : World} {ty : TypeId} {x : Operand} {p : Addr} {d : TypeDesc} {v : Value} (hu : P.underlying ty = some d) (hc : w.cell? p = some v) (ho : o.op = .load ty x := by rfl) (hx : ρ x = .pointer (some p) := by rfl) (hd : (match d with | .struct _ | .array _ _ => true | _ => false) = false := by rfl) : (execOp ρ o).run P w = .ok (.value v) w := jm ty x ho hx hu hd hc
theorem rN {P : Program} {ops : Array Oper} {Q : Exit → Act → World → Prop} {id : Nat} {a : Act} {w : World} (n : Nat) (F : World → Prop) (hF : F w.drew) (h : F w.drew → jB P .any ops Q n F ops.size (Array.replicate ops.size false) a w.drew) (hm : P.follows .mixedOrders = true := by kernel_rfl) : (Code.region id ops true).wp P Q a w := wp_region_N n F hm (h hF)
theorem nTF : (!true) = false ∧ (!false) = true := ⟨rfl, rfl⟩
theorem enE {P : Program} {f : FuncId} {fn : Func} {c : Code} (hf : P.funcs[f]? = some fn) (hb : fn.body = some c) (hn : (fn.name == "runtime.NumGoroutine") = false := by kernel_rfl) : ∀ (u : World) (args : Array Value), (callFunc f args).run P u = .ok (.enter f args) u := fun u args => enters_of hf hn hb args u
end Go.Proofs.YthjaepmfkgejkaaGreatDoor
namespace Go.Proofs.YthjaepmfkgejkaaGreatDoor
def B (s : ByteArray) (k : Nat) : Nat := (s.get! k).toNat
theorem getB (s : ByteArray) : ∀ (n : Nat) (h : n < s.size), ((s[n]'h).toNat : Int) = (B s n : Int) := by
  intro n h
  unfold B
  have := get_at s n h
  simp at this
  rw [this]
theorem KJ (s : ByteArray) (k : Nat) : B s k < 256 := by unfold B; exact (s.get! k).toNat_lt
def K3 (s : ByteArray) (pos : Nat) : Bool := !((Utf8.decode s pos) == (0xFFFD, 1))
def zF (s : ByteArray) (k : Nat) : Bool := decide (k < s.size) && (B s k / 64 == 2)
theorem JO (s : ByteArray) (i : Nat) : Utf8.decode s i =
    if B s i < 0x80 then (B s i, 1)
    else if (B s i / 32 == 6 && zF s (i + 1)) = true then
      (if (B s i % 32) * 64 + B s (i + 1) % 64 ≥ 0x80 then ((B s i % 32) * 64 + B s (i + 1) % 64, 2) else (0xFFFD, 1))
    else if (B s i / 16 == 14 && zF s (i + 1) && zF s (i + 2)) = true then
      (if ((B s i % 16) * 4096 + (B s (i + 1) % 64) * 64 + B s (i + 2) % 64 ≥ 0x800 && Utf8.valid ((B s i % 16) * 4096 + (B s (i + 1) % 64) * 64 + B s (i + 2) % 64 : Nat)) = true
        then ((B s i % 16) * 4096 + (B s (i + 1) % 64) * 64 + B s (i + 2) % 64, 3) else (0xFFFD, 1))
    else if (B s i / 8 == 30 && zF s (i + 1) && zF s (i + 2) && zF s (i + 3)) = true then
      (if ((B s i % 8) * 262144 + (B s (i + 1) % 64) * 4096 + (B s (i + 2) % 64) * 64 + B s (i + 3) % 64 ≥ 0x10000 && Utf8.valid ((B s i % 8) * 262144 + (B s (i + 1) % 64) * 4096 + (B s (i + 2) % 64) * 64 + B s (i + 3) % 64 : Nat)) = true
        then ((B s i % 8) * 262144 + (B s (i + 1) % 64) * 4096 + (B s (i + 2) % 64) * 64 + B s (i + 3) % 64, 4) else (0xFFFD, 1))
    else (0xFFFD, 1) := by
  rfl
def K4 (r : Int) : Bool := decide (0 ≤ r) && decide (r ≤ 1114111) && (decide (r < 55296) || decide (57343 < r))
theorem vt (r : Int) : Utf8.valid r = K4 r := by
  unfold Utf8.valid K4
  rw [Bool.eq_iff_iff]
  simp only [Bool.or_eq_true, Bool.and_eq_true, decide_eq_true_eq]
  omega
def v2 (s : ByteArray) (i : Nat) : Nat := (B s i % 32) * 64 + B s (i + 1) % 64
def v3 (s : ByteArray) (i : Nat) : Nat := (B s i % 16) * 4096 + (B s (i + 1) % 64) * 64 + B s (i + 2) % 64
def v4 (s : ByteArray) (i : Nat) : Nat := (B s i % 8) * 262144 + (B s (i + 1) % 64) * 4096 + (B s (i + 2) % 64) * 64 + B s (i + 3) % 64
theorem ok_of {s : ByteArray} {i r n : Nat} (e : Utf8.decode s i = (r, n)) (h : ¬ (r = 0xFFFD ∧ n = 1)) : K3 s i = true := by
  simp [K3, e]; omega
theorem vO {s : ByteArray} {i : Nat} (e : Utf8.decode s i = (0xFFFD, 1)) : K3 s i = false := by
  simp [K3, e]
theorem KF {s : ByteArray} {k : Nat} (h : k < s.size) (b : B s k / 64 = 2) : zF s k = true := by simp [zF, h, b]
theorem KW {s : ByteArray} {k : Nat} (h : s.size ≤ k ∨ B s k / 64 ≠ 2) : zF s k = false := by
  simp [zF]; omega
theorem dec1 {s : ByteArray} {i : Nat} (h : B s i < 128) : Utf8.decode s i = (B s i, 1) ∧ K3 s i = true := by
  have e : Utf8.decode s i = (B s i, 1) := by rw [JO, if_pos h]
  exact ⟨e, ok_of e (by omega)⟩
theorem Ux {s : ByteArray} {i : Nat} (h : 128 ≤ B s i ∧ B s i < 192 ∨ 248 ≤ B s i) : K3 s i = false := by
  have := KJ s i
  refine vO ?_
  rw [JO, if_neg (by omega), if_neg (by simp; omega), if_neg (by simp; omega), if_neg (by simp; omega)]
theorem Uo {s : ByteArray} {i : Nat} (h : 192 ≤ B s i ∧ B s i < 224) (g : zF s (i + 1) = false) : K3 s i = false := by
  refine vO ?_
  rw [JO, if_neg (by omega), if_neg (by simp [g]), if_neg (by simp; omega), if_neg (by simp; omega)]
theorem dec2 {s : ByteArray} {i : Nat} (h : 192 ≤ B s i ∧ B s i < 224) (g : zF s (i + 1) = true) :
    (128 ≤ v2 s i ∧ Utf8.decode s i = (v2 s i, 2) ∧ K3 s i = true) ∨ (v2 s i < 128 ∧ K3 s i = false) := by
  by_cases v : 128 ≤ v2 s i
  · have e : Utf8.decode s i = (v2 s i, 2) := by
      rw [JO, if_neg (by omega), if_pos (by simp [g]; omega), if_pos (by unfold v2 at v; omega)]; rfl
    exact .inl ⟨v, e, ok_of e (by omega)⟩
  · refine .inr ⟨by omega, vO ?_⟩
    rw [JO, if_neg (by omega), if_pos (by simp [g]; omega), if_neg (by unfold v2 at v; omega)]
theorem Zv {s : ByteArray} {i : Nat} (h : 224 ≤ B s i ∧ B s i < 240) (g : zF s (i + 1) = false ∨ zF s (i + 2) = false) : K3 s i = false := by
  refine vO ?_
  rw [JO, if_neg (by omega), if_neg (by simp; omega), if_neg (by rcases g with g | g <;> simp [g]), if_neg (by simp; omega)]
theorem dec3 {s : ByteArray} {i : Nat} (h : 224 ≤ B s i ∧ B s i < 240) (g : zF s (i + 1) = true) (g2 : zF s (i + 2) = true) :
    (2048 ≤ v3 s i ∧ K4 (v3 s i) = true ∧ Utf8.decode s i = (v3 s i, 3) ∧ K3 s i = true) ∨ ((v3 s i < 2048 ∨ K4 (v3 s i) = false) ∧ K3 s i = false) := by
  by_cases v : 2048 ≤ v3 s i ∧ K4 (v3 s i) = true
  ·
   have e : Utf8.decode s i = (v3 s i, 3) := by
     rw [JO, if_neg (by omega), if_neg (by simp; omega), if_pos (by simp [g, g2]; omega), if_pos]
     · rfl
     · rw [vt]
       show (decide (v3 s i ≥ 2048) && K4 (v3 s i)) = true
       simp [v]
   exact .inl ⟨v.1, v.2, e, ok_of e (by omega)⟩
  ·
   refine .inr ⟨?_, vO ?_⟩
   · rcases Nat.lt_or_ge (v3 s i) 2048 with a | a
     · exact .inl a
     · right; simpa [a] using v
   ·
    rw [JO, if_neg (by omega), if_neg (by simp; omega), if_pos (by simp [g, g2]; omega), if_neg]
    rw [vt]
    show ¬ (decide (v3 s i ≥ 2048) && K4 (v3 s i)) = true
    simpa using v
theorem Jm {s : ByteArray} {i : Nat} (h : 240 ≤ B s i ∧ B s i < 248) (g : zF s (i + 1) = false ∨ zF s (i + 2) = false ∨ zF s (i + 3) = false) : K3 s i = false := by
  refine vO ?_
  rw [JO, if_neg (by omega), if_neg (by simp; omega), if_neg (by simp; omega), if_neg (by rcases g with g | g | g <;> simp [g])]
theorem dec4 {s : ByteArray} {i : Nat} (h : 240 ≤ B s i ∧ B s i < 248) (g : zF s (i + 1) = true) (g2 : zF s (i + 2) = true) (g3 : zF s (i + 3) = true) :
    (65536 ≤ v4 s i ∧ K4 (v4 s i) = true ∧ Utf8.decode s i = (v4 s i, 4) ∧ K3 s i = true) ∨ ((v4 s i < 65536 ∨ K4 (v4 s i) = false) ∧ K3 s i = false) := by
  by_cases v : 65536 ≤ v4 s i ∧ K4 (v4 s i) = true
  ·
   have e : Utf8.decode s i = (v4 s i, 4) := by
     rw [JO, if_neg (by omega), if_neg (by simp; omega), if_neg (by simp; omega), if_pos (by simp [g, g2, g3]; omega), if_pos]
     · rfl
     · rw [vt]
       show (decide (v4 s i ≥ 65536) && K4 (v4 s i)) = true
       simp [v]
   exact .inl ⟨v.1, v.2, e, ok_of e (by omega)⟩
  ·
   refine .inr ⟨?_, vO ?_⟩
   · rcases Nat.lt_or_ge (v4 s i) 65536 with a | a
     · exact .inl a
     · right; simpa [a] using v
   ·
    rw [JO, if_neg (by omega), if_neg (by simp; omega), if_neg (by simp; omega), if_pos (by simp [g, g2, g3]; omega), if_neg]
    rw [vt]
    show ¬ (decide (v4 s i ≥ 65536) && K4 (v4 s i)) = true
    simpa using v
theorem JP {s : ByteArray} {i : Nat} (hi : i < s.size) : i + (Utf8.decode s i).2 ≤ s.size ∧ 1 ≤ (Utf8.decode s i).2 ∧ (Utf8.decode s i).2 ≤ 4 := by
  have hb : ∀ {r n : Nat}, Utf8.decode s i = (r, n) → i + n ≤ s.size → 1 ≤ n → n ≤ 4 → i + (Utf8.decode s i).2 ≤ s.size ∧ 1 ≤ (Utf8.decode s i).2 ∧ (Utf8.decode s i).2 ≤ 4 := by
    intro r n e h1 h2 h3; rw [e]; exact ⟨h1, h2, h3⟩
  have hbad : K3 s i = false → Utf8.decode s i = (0xFFFD, 1) := by intro h; simpa [K3] using h
  have lt := KJ s i
  have hc : ∀ {k}, zF s k = true → k < s.size := by intro k h; simp [zF] at h; exact h.1
  rcases (by omega : B s i < 128 ∨ (128 ≤ B s i ∧ B s i < 192 ∨ 248 ≤ B s i) ∨ (192 ≤ B s i ∧ B s i < 224) ∨ (224 ≤ B s i ∧ B s i < 240) ∨ (240 ≤ B s i ∧ B s i < 248)) with h | h | h | h | h
  · exact hb (dec1 h).1 (by omega) (by omega) (by omega)
  · exact hb (hbad (Ux h)) (by omega) (by omega) (by omega)
  ·
   cases g : zF s (i + 1)
   · exact hb (hbad (Uo h g)) (by omega) (by omega) (by omega)
   ·
    have := hc g
    rcases dec2 h g with ⟨_, e, _⟩ | ⟨_, e⟩
    · exact hb e (by omega) (by omega) (by omega)
    · exact hb (hbad e) (by omega) (by omega) (by omega)
  ·
   cases g : zF s (i + 1)
   · exact hb (hbad (Zv h (.inl g))) (by omega) (by omega) (by omega)
   ·
    cases g2 : zF s (i + 2)
    · exact hb (hbad (Zv h (.inr g2))) (by omega) (by omega) (by omega)
    ·
     have := hc g2
     rcases dec3 h g g2 with ⟨_, _, e, _⟩ | ⟨_, e⟩
     · exact hb e (by omega) (by omega) (by omega)
     · exact hb (hbad e) (by omega) (by omega) (by omega)
  ·
   cases g : zF s (i + 1)
   · exact hb (hbad (Jm h (.inl g))) (by omega) (by omega) (by omega)
   ·
    cases g2 : zF s (i + 2)
    · exact hb (hbad (Jm h (.inr (.inl g2)))) (by omega) (by omega) (by omega)
    ·
     cases g3 : zF s (i + 3)
     · exact hb (hbad (Jm h (.inr (.inr g3)))) (by omega) (by omega) (by omega)
     ·
      have := hc g3
      rcases dec4 h g g2 g3 with ⟨_, _, e, _⟩ | ⟨_, e⟩
      · exact hb e (by omega) (by omega) (by omega)
      · exact hb (hbad e) (by omega) (by omega) (by omega)
def KG (s : ByteArray) : Nat → Nat → Option (List Nat)
  | 0, _ => some []
  | f + 1, pos => if pos < s.size then (if K3 s pos then (KG s f (pos + (Utf8.decode s pos).2)).map ((Utf8.decode s pos).1 :: ·) else none) else some []
def zU (s : ByteArray) : Option (List Nat) := KG s s.size 0
def zG (s : ByteArray) : Bool := (zU s).isSome
theorem uf (s : ByteArray) : ∀ (f g pos : Nat), s.size ≤ pos + f → f ≤ g → KG s g pos = KG s f pos
  | 0, 0, _, _, _ => rfl
  | 0, g + 1, pos, h, _ => by simp [KG]; omega
  | f + 1, 0, _, _, h => by omega
  | f + 1, g + 1, pos, h, hg => by
    unfold KG
    by_cases hp : pos < s.size
    ·
     rw [if_pos hp, if_pos hp]
     by_cases ho : K3 s pos = true
     · rw [if_pos ho, if_pos ho, uf s f g _ (by have := (JP hp).2.1; omega) (by omega)]
     · rw [if_neg ho, if_neg ho]
    · rw [if_neg hp, if_neg hp]
def jn (s : ByteArray) (pos : Nat) : Option (List Nat) := KG s (s.size - pos) pos
theorem vP (s : ByteArray) : zU s = jn s 0 := rfl
theorem KN {s : ByteArray} {pos : Nat} (h : s.size ≤ pos) : jn s pos = some [] := by
  unfold jn; rw [show s.size - pos = 0 by omega]; rfl
theorem Z2 {s : ByteArray} {pos : Nat} (h : pos < s.size) (k : K3 s pos = false) : jn s pos = none := by
  unfold jn
  obtain ⟨f, hf⟩ : ∃ f, s.size - pos = f + 1 := ⟨s.size - pos - 1, by omega⟩
  rw [hf, KG, if_pos h, k]; rfl
theorem Jc {s : ByteArray} {pos : Nat} (h : pos < s.size) (k : K3 s pos = true) :
    jn s pos = (jn s (pos + (Utf8.decode s pos).2)).map ((Utf8.decode s pos).1 :: ·) := by
  unfold jn
  obtain ⟨f, hf⟩ : ∃ f, s.size - pos = f + 1 := ⟨s.size - pos - 1, by omega⟩
  rw [hf, KG, if_pos h, k, if_pos rfl, uf s (s.size - (pos + (Utf8.decode s pos).2)) f _ (by omega) (by have := (JP h).2.1; omega)]
end Go.Proofs.YthjaepmfkgejkaaGreatDoor
namespace Go.Proofs.YthjaepmfkgejkaaGreatDoor
def Z1 (r : Int) : List Int :=
  if r < 128 then [r] else if r < 2048 then [192 + r / 64, 128 + r % 64] else if r < 65536 then [224 + r / 4096, 128 + r / 64 % 64, 128 + r % 64]
  else [240 + r / 262144, 128 + r / 4096 % 64, 128 + r / 64 % 64, 128 + r % 64]
theorem qH {r : Int} (h : r < 128) : Z1 r = [r] := by unfold Z1; rw [if_pos h]
theorem Uy {r : Int} (h : 128 ≤ r) (h' : r < 2048) : Z1 r = [192 + r / 64, 128 + r % 64] := by
  unfold Z1; rw [if_neg (by omega), if_pos h']
theorem qI {r : Int} (h : 2048 ≤ r) (h' : r < 65536) : Z1 r = [224 + r / 4096, 128 + r / 64 % 64, 128 + r % 64] := by
  unfold Z1; rw [if_neg (by omega), if_neg (by omega), if_pos h']
theorem qJ {r : Int} (h : 65536 ≤ r) : Z1 r = [240 + r / 262144, 128 + r / 4096 % 64, 128 + r / 64 % 64, 128 + r % 64] := by
  unfold Z1; rw [if_neg (by omega), if_neg (by omega), if_neg (by omega)]
def vOf (s : ByteArray) (i k : Nat) : Int :=
  if k = 1 then B s i else if k = 2 then ((B s i : Int) - 192) * 64 + B s (i + 1) - 128
  else if k = 3 then ((B s i : Int) - 224) * 4096 + ((B s (i + 1) : Int) - 128) * 64 + B s (i + 2) - 128
  else ((B s i : Int) - 240) * 262144 + ((B s (i + 1) : Int) - 128) * 4096 + ((B s (i + 2) : Int) - 128) * 64 + B s (i + 3) - 128
def jT (s : ByteArray) (i k : Nat) : List Int :=
  if k = 1 then [(B s i : Int)] else if k = 2 then [(B s i : Int), B s (i + 1)] else if k = 3 then [(B s i : Int), B s (i + 1), B s (i + 2)]
  else [(B s i : Int), B s (i + 1), B s (i + 2), B s (i + 3)]
def hit (s : ByteArray) (i k : Nat) : Prop := K3 s i = true ∧ (Utf8.decode s i).2 = k
theorem vu {s : ByteArray} {k : Nat} (h : zF s k = true) : k < s.size ∧ B s k / 64 = 2 := by simpa [zF] using h
theorem Qp {s : ByteArray} {i k : Nat} (h : hit s i k) : vOf s i k = (Utf8.decode s i).1 ∧ K4 (Utf8.decode s i).1 = true ∧ Z1 (Utf8.decode s i).1 = jT s i k ∧ 1 ≤ k ∧ k ≤ 4 := by
  obtain ⟨ho, hw⟩ := h
  have lt := KJ s i
  have lt1 := KJ s (i + 1)
  have lt2 := KJ s (i + 2)
  have lt3 := KJ s (i + 3)
  rcases (by omega : B s i < 128 ∨ (128 ≤ B s i ∧ B s i < 192 ∨ 248 ≤ B s i) ∨ (192 ≤ B s i ∧ B s i < 224) ∨ (224 ≤ B s i ∧ B s i < 240) ∨ (240 ≤ B s i ∧ B s i < 248)) with h | h | h | h | h
  ·
   obtain ⟨e, _⟩ := dec1 h
   rw [e] at hw ⊢
   subst hw
   refine ⟨rfl, by simp [K4]; omega, ?_, by omega, by omega⟩
   rw [qH (by simp; omega)]; rfl
  · rw [Ux h] at ho; cases ho
  ·
   cases g : zF s (i + 1)
   · rw [Uo h g] at ho; cases ho
   ·
    have := vu g
    rcases dec2 h g with ⟨hv, e, _⟩ | ⟨_, e⟩
    ·
     rw [e] at hw ⊢
     subst hw
     have ev : (v2 s i : Int) = ((B s i : Int) - 192) * 64 + B s (i + 1) - 128 := by unfold v2; omega
     refine ⟨ev.symm, by simp [K4]; omega, ?_, by omega, by omega⟩
     rw [Uy (by omega) (by simp only [ev]; omega)]
     simp only [ev, jT]
     simp; omega
    · rw [e] at ho; cases ho
  ·
   cases g : zF s (i + 1)
   · rw [Zv h (.inl g)] at ho; cases ho
   ·
    cases g2 : zF s (i + 2)
    · rw [Zv h (.inr g2)] at ho; cases ho
    ·
     have := vu g
     have := vu g2
     rcases dec3 h g g2 with ⟨hv, hm, e, _⟩ | ⟨_, e⟩
     ·
      rw [e] at hw ⊢
      subst hw
      have ev : (v3 s i : Int) = ((B s i : Int) - 224) * 4096 + ((B s (i + 1) : Int) - 128) * 64 + B s (i + 2) - 128 := by unfold v3; omega
      refine ⟨ev.symm, hm, ?_, by omega, by omega⟩
      rw [qI (by omega) (by simp only [ev]; omega)]
      simp only [ev, jT]
      simp; omega
     · rw [e] at ho; cases ho
  ·
   cases g : zF s (i + 1)
   · rw [Jm h (.inl g)] at ho; cases ho
   ·
    cases g2 : zF s (i + 2)
    · rw [Jm h (.inr (.inl g2))] at ho; cases ho
    ·
     cases g3 : zF s (i + 3)
     · rw [Jm h (.inr (.inr g3))] at ho; cases ho
     ·
      have := vu g
      have := vu g2
      have := vu g3
      rcases dec4 h g g2 g3 with ⟨hv, hm, e, _⟩ | ⟨_, e⟩
      ·
       rw [e] at hw ⊢
       subst hw
       have ev : (v4 s i : Int) = ((B s i : Int) - 240) * 262144 + ((B s (i + 1) : Int) - 128) * 4096 + ((B s (i + 2) : Int) - 128) * 64 + B s (i + 3) - 128 := by unfold v4; omega
       refine ⟨ev.symm, hm, ?_, by omega, by omega⟩
       rw [qJ (by omega)]
       simp only [ev, jT]
       simp; omega
      · rw [e] at ho; cases ho
theorem qK {r : Int} (h : K4 r = true) : 0 ≤ r ∧ r ≤ 1114111 ∧ (r < 55296 ∨ 57343 < r) := by
  simp [K4] at h; omega
theorem vOf_miss {s : ByteArray} {i k : Nat} (h1 : 1 ≤ k) (h4 : k ≤ 4) (hin : i + k ≤ s.size) (hm : K4 (vOf s i k) = true) (he : Z1 (vOf s i k) = jT s i k) : hit s i k := by
  have hr := qK hm
  have lt := KJ s i
  have lt1 := KJ s (i + 1)
  have lt2 := KJ s (i + 2)
  have lt3 := KJ s (i + 3)
  have fin : ∀ {r n : Nat}, Utf8.decode s i = (r, n) → K3 s i = true → n = k → hit s i k := by
    intro r n e ho hn; exact ⟨ho, by rw [e]; exact hn⟩
  rcases (by omega : k = 1 ∨ k = 2 ∨ k = 3 ∨ k = 4) with rfl | rfl | rfl | rfl
  ·
   rw [show vOf s i 1 = (B s i : Int) from rfl] at he hr
   rcases (by omega : (B s i : Int) < 128 ∨ 128 ≤ (B s i : Int)) with a | a
   · obtain ⟨e, ho⟩ := dec1 (s := s) (i := i) (by omega)
     exact fin e ho rfl
   · rw [Uy a (by omega)] at he
     simp [jT] at he
  ·
   rw [show vOf s i 2 = ((B s i : Int) - 192) * 64 + B s (i + 1) - 128 from rfl] at he hr
   generalize hv : ((B s i : Int) - 192) * 64 + B s (i + 1) - 128 = v at he hr
   rcases (by omega : v < 128 ∨ (128 ≤ v ∧ v < 2048) ∨ (2048 ≤ v ∧ v < 65536) ∨ 65536 ≤ v) with a | ⟨a, b⟩ | ⟨a, b⟩ | a
   · rw [qH a] at he; simp [jT] at he
   ·
    rw [Uy a b] at he
    simp [jT] at he
    obtain ⟨e1, e2⟩ := he
    have h : 192 ≤ B s i ∧ B s i < 224 := by omega
    have g : zF s (i + 1) = true := KF (by omega) (by omega)
    rcases dec2 h g with ⟨_, e, ho⟩ | ⟨c, _⟩
    · exact fin e ho rfl
    · unfold v2 at c; omega
   · rw [qI a b] at he; simp [jT] at he
   · rw [qJ a] at he; simp [jT] at he
  ·
   rw [show vOf s i 3 = ((B s i : Int) - 224) * 4096 + ((B s (i + 1) : Int) - 128) * 64 + B s (i + 2) - 128 from rfl] at he hr hm
   generalize hv : ((B s i : Int) - 224) * 4096 + ((B s (i + 1) : Int) - 128) * 64 + B s (i + 2) - 128 = v at he hr hm
   rcases (by omega : v < 128 ∨ (128 ≤ v ∧ v < 2048) ∨ (2048 ≤ v ∧ v < 65536) ∨ 65536 ≤ v) with a | ⟨a, b⟩ | ⟨a, b⟩ | a
   · rw [qH a] at he; simp [jT] at he
   · rw [Uy a b] at he; simp [jT] at he
   ·
    rw [qI a b] at he
    simp [jT] at he
    obtain ⟨e1, e2, e3⟩ := he
    have h : 224 ≤ B s i ∧ B s i < 240 := by omega
    have g : zF s (i + 1) = true := KF (by omega) (by omega)
    have g2 : zF s (i + 2) = true := KF (by omega) (by omega)
    have ev : (v3 s i : Int) = v := by unfold v3; omega
    rcases dec3 h g g2 with ⟨_, _, e, ho⟩ | ⟨c, _⟩
    · exact fin e ho rfl
    · rcases c with c | c
      · omega
      · rw [ev, hm] at c; cases c
   · rw [qJ a] at he; simp [jT] at he
  ·
   rw [show vOf s i 4 = ((B s i : Int) - 240) * 262144 + ((B s (i + 1) : Int) - 128) * 4096 + ((B s (i + 2) : Int) - 128) * 64 + B s (i + 3) - 128 from rfl] at he hr hm
   generalize hv : ((B s i : Int) - 240) * 262144 + ((B s (i + 1) : Int) - 128) * 4096 + ((B s (i + 2) : Int) - 128) * 64 + B s (i + 3) - 128 = v at he hr hm
   rcases (by omega : v < 128 ∨ (128 ≤ v ∧ v < 2048) ∨ (2048 ≤ v ∧ v < 65536) ∨ 65536 ≤ v) with a | ⟨a, b⟩ | ⟨a, b⟩ | a
   · rw [qH a] at he; simp [jT] at he
   · rw [Uy a b] at he; simp [jT] at he
   · rw [qI a b] at he; simp [jT] at he
   ·
    rw [qJ a] at he
    simp [jT] at he
    obtain ⟨e1, e2, e3, e4⟩ := he
    have h : 240 ≤ B s i ∧ B s i < 248 := by omega
    have g : zF s (i + 1) = true := KF (by omega) (by omega)
    have g2 : zF s (i + 2) = true := KF (by omega) (by omega)
    have g3 : zF s (i + 3) = true := KF (by omega) (by omega)
    have ev : (v4 s i : Int) = v := by unfold v4; omega
    rcases dec4 h g g2 g3 with ⟨_, _, e, ho⟩ | ⟨c, _⟩
    · exact fin e ho rfl
    · rcases c with c | c
      · omega
      · rw [ev, hm] at c; cases c
theorem vOf_range (s : ByteArray) (i k : Nat) : -100000000 ≤ vOf s i k ∧ vOf s i k ≤ 100000000 := by
  have lt := KJ s i
  have lt1 := KJ s (i + 1)
  have lt2 := KJ s (i + 2)
  have lt3 := KJ s (i + 3)
  unfold vOf
  split
  · omega
  · split
    · omega
    · split <;> omega
end Go.Proofs.YthjaepmfkgejkaaGreatDoor
namespace Go.Proofs.YthjaepmfkgejkaaGreatDoor
abbrev L (s : ByteArray) : List UInt8 := s.data.toList
theorem jW (s : ByteArray) : (L s).length = s.size := by simp [L]
theorem ug (s : ByteArray) : s.toList = L s := by
  have h := Lib.extract_toList s 0 s.size
  have h2 := Lib.extract_data s 0 s.size
  have e : s.extract 0 s.size = s := by
    apply ByteArray.ext
    apply Array.toList_inj.1
    rw [h2, List.drop_zero, List.take_of_length_le (by rw [← jW]; exact Nat.le_refl _)]
  rw [e] at h
  rw [h, List.drop_zero, List.take_of_length_le (by rw [← jW]; exact Nat.le_refl _)]
theorem L_inj {a b : ByteArray} (h : L a = L b) : a = b := by
  apply ByteArray.ext
  exact Array.toList_inj.1 h
theorem str_beq (a b : ByteArray) : (a.toList == b.toList) = decide (L a = L b) := by
  rw [ug, ug, Bool.eq_iff_iff]
  simp
theorem B_L (s : ByteArray) (k : Nat) (h : k < s.size) : (L s)[k]? = some (s[k]'h) := Go.Proofs.byte_at s k h
theorem B_of (s : ByteArray) (k : Nat) (h : k < s.size) : B s k = (s[k]'h).toNat := by
  have := getB s k h
  omega
def num (l : List UInt8) : List Int := l.map fun c => (c.toNat : Int)
theorem num_inj {a b : List UInt8} (h : num a = num b) : a = b := by
  induction a generalizing b with
  | nil => cases b with
    | nil => rfl
    | cons _ _ => simp [num] at h
  | cons x a ih => cases b with
    | nil => simp [num] at h
    | cons y b =>
      simp only [num, List.map_cons, List.cons.injEq] at h
      have := ih h.2
      subst this
      have hx : x = y := UInt8.toNat_inj.1 (by omega)
      rw [hx]
theorem qM {xs : List Int} (h : ∀ x ∈ xs, 0 ≤ x ∧ x < 256) : num (L (strOfNums xs)) = xs := by
  rw [L, strOfNums_data, num, List.map_map]
  conv => rhs; rw [← List.map_id xs]
  apply List.map_congr_left
  intro x hx
  have := h x hx
  simp
  omega
theorem Uz {r : Int} (h0 : 0 ≤ r) (h1 : r ≤ 1114111) : ∀ x ∈ Z1 r, 0 ≤ x ∧ x < 256 := by
  rcases (by omega : r < 128 ∨ (128 ≤ r ∧ r < 2048) ∨ (2048 ≤ r ∧ r < 65536) ∨ 65536 ≤ r) with a | ⟨a, b⟩ | ⟨a, b⟩ | a
  · rw [qH a]; simp; omega
  · rw [Uy a b]; simp; omega
  · rw [qI a b]; simp; omega
  · rw [qJ a]; simp; omega
theorem jH (s : ByteArray) (i : Nat) (h : i < s.size) (k : Nat) : num (((L s).drop i).take (k + 1)) = (B s i : Int) :: num (((L s).drop (i + 1)).take k) := by
  have hl : i < (L s).length := by rw [jW]; exact h
  rw [List.drop_eq_getElem_cons hl, List.take_succ_cons]
  have e : (L s)[i] = s[i]'h := Go.Proofs.byte_at' s i h hl
  rw [e, B_of s i h]
  rfl
theorem num_extract {s : ByteArray} {i k : Nat} (h1 : 1 ≤ k) (h4 : k ≤ 4) (hin : i + k ≤ s.size) : num (L (s.extract i (i + k))) = jT s i k := by
  rw [L, Lib.extract_data, show i + k - i = k by omega]
  rcases (by omega : k = 1 ∨ k = 2 ∨ k = 3 ∨ k = 4) with rfl | rfl | rfl | rfl
  · rw [jH s i (by omega)]; rfl
  · rw [jH s i (by omega), jH s (i + 1) (by omega)]; rfl
  · rw [jH s i (by omega), jH s (i + 1) (by omega), jH s (i + 1 + 1) (by omega)]; rfl
  · rw [jH s i (by omega), jH s (i + 1) (by omega), jH s (i + 1 + 1) (by omega), jH s (i + 1 + 1 + 1) (by omega)]; rfl
theorem enc_beq {s : ByteArray} {i k : Nat} {v : Int} (h1 : 1 ≤ k) (h4 : k ≤ 4) (hin : i + k ≤ s.size) (h0 : 0 ≤ v) (hv : v ≤ 1114111) :
    ((strOfNums (Z1 v)).toList == (s.extract i (i + k)).toList) = decide (Z1 v = jT s i k) := by
  rw [str_beq, Bool.eq_iff_iff, decide_eq_true_eq, decide_eq_true_eq, ← num_extract h1 h4 hin]
  constructor
  · intro h
    rw [← h, qM (Uz h0 hv)]
  · intro h
    apply num_inj
    rw [qM (Uz h0 hv), h]
end Go.Proofs.YthjaepmfkgejkaaGreatDoor
namespace Go.Proofs.YthjaepmfkgejkaaGreatDoor
def kS (n : Nat) : List UInt8 := if h : n < 128 then [UInt8.ofNat n] else UInt8.ofNat (n % 128 + 128) :: kS (n / 128)
termination_by n
decreasing_by omega
theorem Zw {n : Nat} (h : n < 128) : kS n = [UInt8.ofNat n] := by rw [kS, dif_pos h]
theorem uh {n : Nat} (h : ¬ n < 128) : kS n = UInt8.ofNat (n % 128 + 128) :: kS (n / 128) := by rw [kS, dif_neg h]
def J4 (i : Nat) : List UInt8 → Option (Nat × Nat)
  | [] => none
  | c :: r => if 128 ≤ c.toNat then (if 8 ≤ i then none else match J4 (i + 1) r with | some (n, k) => some (c.toNat - 128 + 128 * n, k + 1) | none => none)
    else if c.toNat = 0 ∧ 0 < i then none else some (c.toNat, 1)
def JA (l : List UInt8) : Option (Nat × Nat) := J4 0 l
theorem u8_of {n : Nat} (h : n < 256) : (UInt8.ofNat n).toNat = n := by simp; omega
theorem getGo_k : ∀ (l : List UInt8) (i n k : Nat), J4 i l = some (n, k) → 1 ≤ k ∧ k ≤ l.length ∧ i + k ≤ 9 ∨ (8 < i ∧ k = 1)
  | [], _, _, _, h => by cases h
  | c :: r, i, n, k, h => by
    unfold J4 at h
    split at h
    ·
     split at h
     · cases h
     ·
      rename_i hi
      rcases hg : J4 (i + 1) r with _ | ⟨n', k'⟩
      · rw [hg] at h; cases h
      ·
       rw [hg] at h
       cases h
       rcases getGo_k r (i + 1) n' k' hg with ⟨h1, h2, h3⟩ | ⟨h1, h2⟩
       · left; simp; omega
       · omega
    ·
     split at h
     · cases h
     ·
      cases h
      rcases (by omega : i ≤ 8 ∨ 8 < i) with e | e
      · left; simp; omega
      · right; exact ⟨e, rfl⟩
theorem Qq {l : List UInt8} {n k : Nat} (h : JA l = some (n, k)) : 1 ≤ k ∧ k ≤ l.length ∧ k ≤ 9 := by
  rcases getGo_k l 0 n k h with ⟨h1, h2, h3⟩ | ⟨h1, _⟩
  · exact ⟨h1, h2, by omega⟩
  · omega
theorem uY : ∀ (l : List UInt8) (i n k : Nat), J4 i l = some (n, k) → n < 128 ^ k
  | [], _, _, _, h => by cases h
  | c :: r, i, n, k, h => by
    unfold J4 at h
    split at h
    ·
     split at h
     · cases h
     ·
      rcases hg : J4 (i + 1) r with _ | ⟨n', k'⟩
      · rw [hg] at h; cases h
      ·
       rw [hg] at h
       cases h
       have := uY r (i + 1) n' k' hg
       have hc := c.toNat_lt
       rw [Nat.pow_succ]
       omega
    ·
     split at h
     · cases h
     · cases h
       rw [Nat.pow_one]; omega
theorem vQ {l : List UInt8} {n k : Nat} (h : JA l = some (n, k)) : n < 9223372036854775808 := by
  have h1 := uY l 0 n k h
  have h2 := (Qq h).2.2
  have : 128 ^ k ≤ 128 ^ 9 := Nat.pow_le_pow_right (by omega) h2
  have e : 128 ^ 9 = 9223372036854775808 := by decide
  omega
theorem numB_ne (n : Nat) : kS n ≠ [] := by
  unfold kS
  split <;> simp
theorem ui (n : Nat) : 1 ≤ (kS n).length := by
  have := List.length_pos_iff.2 (numB_ne n)
  exact this
theorem numB_len : ∀ (k n : Nat), 1 ≤ k → n < 128 ^ k → (kS n).length ≤ k
  | 0, _, h, _ => by omega
  | k + 1, n, _, h => by
    by_cases hn : n < 128
    · rw [Zw hn]; simp
    ·
     rw [uh hn]
     rcases Nat.eq_zero_or_pos k with e | e
     · subst e; simp at h; omega
     · have := numB_len k (n / 128) e (by rw [Nat.pow_succ] at h; omega)
       simp; omega
theorem qN : ∀ (l : List UInt8) (i n k : Nat), J4 i l = some (n, k) → l.take k = kS n ∧ (0 < i → 0 < n)
  | [], _, _, _, h => by cases h
  | c :: r, i, n, k, h => by
    have hc := c.toNat_lt
    unfold J4 at h
    split at h
    ·
     rename_i h128
     split at h
     · cases h
     ·
      rcases hg : J4 (i + 1) r with _ | ⟨n', k'⟩
      · rw [hg] at h; cases h
      ·
       rw [hg] at h
       cases h
       obtain ⟨h1, h2⟩ := qN r (i + 1) n' k' hg
       have h3 := h2 (by omega)
       refine ⟨?_, fun _ => by omega⟩
       rw [List.take_succ_cons, h1, uh (n := c.toNat - 128 + 128 * n') (by omega)]
       congr 1
       · apply UInt8.toNat_inj.1
         rw [u8_of (by omega)]
         omega
       · congr 1
         omega
    ·
     split at h
     · cases h
     ·
      cases h
      refine ⟨?_, by omega⟩
      rw [Zw (by omega)]
      simp
theorem num_getS {l : List UInt8} {n k : Nat} (h : JA l = some (n, k)) : l.take k = kS n := (qN l 0 n k h).1
def kJ (l : List UInt8) : List UInt8 := kS l.length ++ l
def zw (l : List UInt8) (most : Nat) : Option (List UInt8 × Nat) :=
  match JA l with
  | some (n, k) => if most < n then none else if l.length - k < n then none else some ((l.drop k).take n, k + n)
  | none => none
theorem vH {l t : List UInt8} {most k : Nat} (h : zw l most = some (t, k)) : l.take k = kJ t ∧ k ≤ l.length ∧ t.length ≤ most := by
  unfold zw at h
  rcases hg : JA l with _ | ⟨n, j⟩
  · rw [hg] at h; cases h
  ·
   rw [hg] at h
   simp only at h
   split at h
   · cases h
   ·
    split at h
    · cases h
    ·
     cases h
     have h1 := num_getS hg
     have h2 := Qq hg
     have hlen : ((l.drop j).take n).length = n := by rw [List.length_take, List.length_drop]; omega
     refine ⟨?_, by omega, by omega⟩
     unfold kJ
     rw [hlen, ← h1, List.take_add]
end Go.Proofs.YthjaepmfkgejkaaGreatDoor
namespace Go.Proofs.YthjaepmfkgejkaaGreatDoor
open Go.RowKit
theorem cut_end {α : Type} {a b : List α} {n m : Nat} (ha : a.length = n) (hb : b.length = m) : ((a ++ b).drop n).take m = b := by
  subst ha; subst hb
  simp
def zero32 : List UInt8 := List.replicate 32 0
theorem zP : Ke zero32 := by simp [Ke, zero32]
section
variable {P : Program} {t u i a : TypeId}
theorem kb_id (ht : P.underlying t = some (.array 32 u)) (hu : P.underlying u = some (.int .u8)) (hc : P.cellsOf u = 1) (hct : P.cellsOf t = 32) {l : List UInt8} (hl : Ke l) : Kb P 2 t (idV l) := by
  have hln : (idV l).length = 32 := by rw [k8]; exact hl
  refine kb_arr ht (by rw [hct, hln]) fun j hj => ?_
  rw [hc, Nat.mul_one, List.drop_eq_getElem_cons (by omega), List.take_succ_cons, List.take_zero]
  have hlj : j < l.length := by rw [hl]; exact hj
  rw [show (idV l)[j]'(by omega) = .int .u8 ((l[j]'hlj).toNat : Int) by simp [idV]]
  refine kb_int hu ?_
  simp only [Lit.wf, IntKind.min, IntKind.max, IntKind.signed, IntKind.bits, Bool.and_eq_true]
  have := (l[j]'hlj).toNat_lt
  simp
  omega
end
abbrev jQ := List UInt8 × Int
def ke (r : jQ) : List Value := idV r.1 ++ [.int .i64 r.2]
def jN (r : jQ) : Prop := Ke r.1 ∧ (Lit.int .i64 r.2).wf = true
theorem kf {r : jQ} (h : jN r) : (ke r).length = 33 := by
  have := h.1
  unfold Ke at this
  simp [ke, idV, this]
theorem refV_inj {a b : jQ} (h : ke a = ke b) : a = b := by
  unfold ke at h
  have hl := congrArg List.length h
  simp only [List.length_append, List.length_singleton] at hl
  obtain ⟨h3, h4⟩ := List.append_inj h (by omega)
  simp only [List.cons.injEq, Value.int.injEq, true_and, and_true] at h4
  exact Prod.ext (idV_inj h3) h4
theorem Kz (r : jQ) : ∀ u ∈ ke r, u.oneCell' = true := by
  intro u hu
  rcases List.mem_append.1 hu with hu | hu
  · exact ky _ u hu
  · simp at hu; subst hu; rfl
theorem Zx : Tryz.prog.cellsOf 47 = 32 := by kernel_rfl
theorem Up : Tryz.prog.cellsOf 5 = 1 := by kernel_rfl
theorem ZQ : Tryz.prog.cellsOf 3 = 1 := by kernel_rfl
theorem Zf : Tryz.prog.cellsOf 9 = 1 := by kernel_rfl
theorem kbId {l : List UInt8} (hl : Ke l) : Kb Tryz.prog 2 47 (idV l) := kb_id Tryz.underlying47 Tryz.underlying5 Up Zx hl
theorem eqId : EqT Tryz.prog 47 2 := ⟨by kernel_rfl, of_decide_eq_true (by kernel_rfl), of_decide_eq_true (by kernel_rfl), by kernel_rfl, by kernel_rfl, of_decide_eq_true (by kernel_rfl), by kernel_rfl⟩
theorem jX {a b : List UInt8} (ha : Ke a) (hb : Ke b) (w : World) : (Op.equalIn 10000 47 (.agg (idV a).toArray) (.agg (idV b).toArray)).run Tryz.prog w = .ok (decide (a = b)) w :=
  eqId.run idV (fun _ _ => idV_inj) (by rw [k8, Zx]; exact ha) (by rw [k8, Zx]; exact hb) (kbId ha) (kbId hb) w
end Go.Proofs.YthjaepmfkgejkaaGreatDoor
