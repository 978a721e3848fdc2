/-
  The law ObjectReads, walked. Conditions: the bytes lie in memory; the library's variable MaxLen holds a number.
  Slices inside a value have their length within their capacity. No conditions; no program.
  Objects and bytes that came in, read. Conditions: none.
-/
import Derived.Test.YthjaepmfkgejkaaGreatDoorMerged20
import Derived.Test.YthjaepmfkgejkaaGreatDoorObjSame
import Derived.Test.YthjaepmfkgejkaaGreatDoorMerged19
import Derived.Test.YthjaepmfkgejkaaGreatDoorMerged21
import Derived.Test.YthjaepmfkgejkaaGreatDoorRefDec8
import Derived.Test.YthjaepmfkgejkaaGreatDoorMerged2
import Derived.Test.YthjaepmfkgejkaaGreatDoorMerged7
import Derived.Test.YthjaepmfkgejkaaGreatDoorMerged6
set_option linter.unusedVariables false
set_option linter.unusedSimpArgs false
set_option maxHeartbeats 4000000
set_option maxRecDepth 100000
namespace Go.Proofs.YthjaepmfkgejkaaGreatDoor.objectReads
open Lib (hid)
open Go.RowKit Go.Maps
theorem copy01_any (l : List UInt8) (ab : Option Addr) (cb : Nat) (w : World) (hb : Sl w w.heap.size ab l.length 1 (idV l)) (hl : l.length ≤ 1099511627776) :
    Calls Tryz.prog 6 #[.slice ab l.length cb] w fun e w' => ∃ A c, e = .returned (.slice A l.length c) ∧ l.length ≤ c ∧ Sl w' w'.heap.size A l.length 1 (idV l) ∧ Below w.heap.size w w' := by
  have HS := hid hb
  clear hb
  go_enter Tryz.func6, Tryz.ntmps6
  go_wp2_with (first
    | (at_builtin; refine wp_appSc (by rfl) _ _ 22 rfl 5 (.int .u8 0) 1 1 Tryz.underlying22 ja rfl (by decide) rfl ab l.length cb (idV l) rfl HS.out (kT _) (by unfold maxLen; omega) (by omega) ?_
       intro Ac cc Wc hsc hcc hbc
       have HSC := hid hsc; have HCC := hid hcc; have HBC := hid hbc
       clear hsc hcc hbc))
  go_ret
  exact ⟨_, _, rfl, HCC.out, HSC.out, HBC.out⟩
theorem right_lens {o : KO} (h : kJ o = true) : o.2.1.2.1.length ≤ 1099511627776 ∧ o.2.1.2.2.2.length ≤ 1099511627776 ∧ o.2.2.1.length ≤ 1099511627776 ∧ o.2.2.2.1.length ≤ 1099511627776 := by
  obtain ⟨k, ⟨n, ds, au, os⟩, ⟨ps, cs, a2, ms, st⟩⟩ := o
  unfold kJ at h
  simp only at h ⊢
  split at h
  · simp only [jh, kU, Kk, Bool.and_eq_true, decide_eq_true_eq] at h
    obtain ⟨⟨⟨⟨⟨h1, h2⟩, _⟩, _⟩, _⟩, ⟨⟨⟨⟨_, ⟨⟨h3, _⟩, _⟩⟩, _⟩, _⟩, h4⟩, _⟩ := h
    exact ⟨by omega, by omega, by rw [h1]; decide, by rw [h2]; decide⟩
  ·
   split at h
   · simp only [ju, kW, Kk, Bool.and_eq_true, decide_eq_true_eq] at h
     obtain ⟨⟨⟨⟨_, h1⟩, _⟩, h2⟩, ⟨⟨⟨⟨⟨⟨h3, _⟩, _⟩, ⟨⟨h4, _⟩, _⟩⟩, _⟩, _⟩, _⟩, _⟩ := h
     exact ⟨by rw [h1]; decide, by rw [h2]; decide, by omega, by omega⟩
   · cases h
theorem dec_cases (l : List UInt8) : ∃ (q : KO) (er : Int), Kd l = (q, er) ∧ q.2.1.2.1.length ≤ 1099511627776 ∧ q.2.1.2.2.2.length ≤ 1099511627776 ∧ q.2.2.1.length ≤ 1099511627776 ∧ q.2.2.2.1.length ≤ 1099511627776 := by
  by_cases h : 262144 < l.length
  · exact ⟨_, _, JQ h, by decide, by decide, by decide, by decide⟩
  ·
   rcases hr : ji l with _ | o
   · exact ⟨_, _, jx h hr, by decide, by decide, by decide, by decide⟩
   · obtain ⟨-, hqr⟩ := Zw hr
     exact ⟨_, _, KF h hr, right_lens hqr⟩
theorem walk (l : List UInt8) (ab : Option Addr) (cb : Nat) (w : World) (hcb : l.length ≤ cb) (hb : Sl w w.heap.size ab l.length 1 (idV l)) (hg : Glob w) :
    Calls Tryz.prog 3 #[.slice ab l.length cb] w fun e w' => e = .returned (.bool true) ∧ Below w.heap.size w w' := by
  have HSB := hid hb; have HG := hid hg
  clear hb hg
  by_cases hll : 3000 < l.length
  ·
   have d1 : decide ((3000 : Int) < (l.length : Int)) = true := decide_eq_true (by omega)
   have i1 : (3000 : Int) < (l.length : Int) := by omega
   go_enter Tryz.func3, Tryz.ntmps3
   go_wp2
   go_ret
   exact ⟨rfl, Below.refl _ _⟩
  have d1 : decide ((3000 : Int) < (l.length : Int)) = false := decide_eq_false (by omega)
  have i1 : ¬ (3000 : Int) < (l.length : Int) := by omega
  obtain ⟨q, er, hq, q1, q2, q3, q4⟩ := dec_cases l
  have HDQ := hid hq
  have HQ1 := hid q1; have HQ2 := hid q2; have HQ3 := hid q3; have HQ4 := hid q4
  clear hq q1 q2 q3 q4
  go_enter Tryz.func3, Tryz.ntmps3
  go_upto_region 4 with (first
    | (go_at_call 6; refine (copy01_any l ab cb w HSB.out (by omega)).mono ?_; rintro e W1 ⟨A1, c1, rfl, hc1, hs1, hb1⟩
       have HC1 := hid hc1; have HS1 := hid hs1; have HB1 := hid hb1
       clear hc1 hs1 hb1)
    | (go_at_call 5; refine (JV l A1 c1 W1 HS1.out HC1.out (by omega) (HG.out.next HB1.out)).mono ?_; rintro e W2 ⟨hb2, v2, rfl, hin2⟩
       rw [HDQ.out] at hin2 ⊢
       obtain ⟨c2, rfl, hc2, ho2⟩ := hin2.ten
       have HI2 := hid hin2; have HL2 := hid hc2; have HO2 := hid ho2
       have HB2 := hid (HB1.out.trans (hb2.mono HB1.out.size)); have HD2 := hid hb2
       clear hb2 hin2 hc2 ho2)
    | (with_reducible refine kG ?_
       refine kE (by rfl) 30 rfl objZ (jt _) ?_
       intro X2 hbx2 hzx2 hsx2
       have HBX2 := hid hbx2; have HZX2 := hid hzx2
       clear hbx2 hzx2 hsx2)
    | (with_reducible refine ko ?_
       refine kj (by rfl) 30 _ _ rfl W2.heap.size 0 [] objZ [] c2 30 (.agg (c2).toArray) rfl rfl rfl rfl (by simpa using HZX2.out) HL2.out.symm (by rw [HL2.out]; kernel_rfl) HO2.out ?_
       intro Y2 hby2 hyy2 hsy2
       have HBY2 := hid (HBX2.out.trans (hby2.below HBX2.out.size (fun k hk e => by have e' : k = W2.heap.size := e; omega)))
       have HYY2 : Hid (Y2.heap[W2.heap.size]? = some (.cells (c2).toArray 30 (0, 0))) := hid (by simpa using hyy2)
       clear hby2 hyy2 hsy2))
  have HB3 := hid (HB2.out.trans (HBY2.out.mono HB2.out.size))
  go_upto_region 5 with (first
    | (go_at_call 7; refine (Uw l ab cb Y2 (HSB.out.keep HB3.out |>.more HB3.out.size) hcb (by omega)).mono ?_; rintro e W4 ⟨hb4, v4, rfl, hin4⟩
       rw [HDQ.out] at hin4 ⊢
       obtain ⟨c4, rfl, hc4, ho4⟩ := hin4.ten
       have HI4 := hid hin4; have HL4 := hid hc4; have HO4 := hid ho4
       have HB4 := hid (HB3.out.trans (hb4.mono HB3.out.size)); have HD4 := hid hb4
       clear hb4 hin4 hc4 ho4)
    | (with_reducible refine kG ?_
       refine kE (by rfl) 30 rfl objZ (jt _) ?_
       intro X4 hbx4 hzx4 hsx4
       have HBX4 := hid hbx4; have HZX4 := hid hzx4
       clear hbx4 hzx4 hsx4)
    | (with_reducible refine ko ?_
       refine kj (by rfl) 30 _ _ rfl W4.heap.size 0 [] objZ [] c4 30 (.agg (c4).toArray) rfl rfl rfl rfl (by simpa using HZX4.out) HL4.out.symm (by rw [HL4.out]; kernel_rfl) HO4.out ?_
       intro Y4 hby4 hyy4 hsy4
       have HBY4 := hid (HBX4.out.trans (hby4.below HBX4.out.size (fun k hk e => by have e' : k = W4.heap.size := e; omega)))
       have HYY4 : Hid (Y4.heap[W4.heap.size]? = some (.cells (c4).toArray 30 (0, 0))) := hid (by simpa using hyy4)
       clear hby4 hyy4 hsy4))
  have hb24 := HD4.out.trans (HBY4.out.mono HD4.out.size)
  have HB5 := hid (HB4.out.trans (HBY4.out.mono HB4.out.size))
  have HP2 := hid ((hb24.block W2.heap.size (Array.getElem?_eq_some_iff.1 HYY2.out).1).trans HYY2.out)
  have HJ2 := hid ((HI2.out.keep (HBY2.out.trans (hb24.mono HBY2.out.size))).more (Nat.le_trans HBY2.out.size hb24.size))
  have HJ4 := hid ((HI4.out.keep HBY4.out).more HBY4.out.size)
  clear hb24
  go_wp2_with (first
    | (with_reducible refine ke ?_
       refine k9 (by rfl) (kd 30 _ rfl (p := ⟨W2.heap.size, 0, none⟩) rfl (zq HP2.out HL2.out)) ?_)
    | (with_reducible refine ke ?_
       refine k9 (by rfl) (kd 30 _ rfl (p := ⟨W4.heap.size, 0, none⟩) rfl (zq HYY4.out HL4.out)) ?_)
    | (go_at_call 8; refine (objSame_any q _ _ Y4 HJ2.out HJ4.out HQ1.out HQ2.out HQ3.out HQ4.out).mono ?_; rintro e W6 ⟨hb6, rfl⟩
       have HB6 := hid (HB5.out.trans (hb6.mono HB5.out.size))
       clear hb6)
    | (go_at_call 9; refine (awake08_any W6 (HG.out.next HB6.out)).mono ?_; rintro e W7 ⟨hb7, rfl⟩
       have HB7 := hid (HB6.out.trans (hb7.mono HB6.out.size))
       clear hb7))
  go_ret
  exact ⟨rfl, HB7.out⟩
end Go.Proofs.YthjaepmfkgejkaaGreatDoor.objectReads
namespace Go.Proofs.YthjaepmfkgejkaaGreatDoor
end Go.Proofs.YthjaepmfkgejkaaGreatDoor
namespace Go.Proofs.YthjaepmfkgejkaaGreatDoor
open Go.RowKit Go.ChangeShapes Go.WideShapes Go.ChangeAt
section
variable {H : Type} {enc : TypeId × Value → H} {W : World} {base : Nat} {spare : Nat → Bool} {held : Bool} {fuel : Nat} {cs : List Value} {x : DataW H × List MemPlace}
theorem u8_arg {n : Int} (h : (Lit.int .u8 n).wf = true) : ∃ k : UInt8, n = (k.toNat : Int) := by
  simp only [Lit.wf, IntKind.min, IntKind.max, IntKind.signed, IntKind.bits, Bool.and_eq_true] at h
  simp at h
  refine ⟨UInt8.ofNat n.toNat, ?_⟩
  rw [UInt8.toNat_ofNat_of_lt' (by show n.toNat < 256; omega)]
  omega
instance : Inhabited (List UInt8) := ⟨[]⟩
instance : Inhabited OpD := ⟨(0, kc, kc, k7, 0, k7)⟩
theorem bytes_in {A : Option Addr} {n c : Nat} {d : DataW H} {ps : List MemPlace} (h : DataW.Trod enc Tryz.prog W 0 (fun _ => true) true 22 (.slice A n c) d ps) :
    ∃ l : List UInt8, l.length = n ∧ n ≤ maxLen ∧ n ≤ c ∧ Sl W W.heap.size A l.length 1 (idV l) := by
  obtain ⟨l, h1, h2, h3, _, h5⟩ := open_rows (α := UInt8) (ok := fun _ => True) (enc := fun b => [.int .u8 (b.toNat : Int)]) Tryz.underlying22 qb (by decide) (fun x hx => rfl) (fun n cs x hx => by
    obtain ⟨k0, e0, _, w0⟩ := DataW.trod_int Tryz.underlying5 hx
    obtain ⟨k, rfl⟩ := u8_arg w0
    exact ⟨k, trivial, e0⟩) h
  refine ⟨l, h1, h2, h3, ?_⟩
  have e : jk (fun b : UInt8 => [Value.int .u8 (b.toNat : Int)]) l = idV l := by
    unfold jk idV
    have hf : ∀ l : List UInt8, (l.flatMap fun b : UInt8 => [Value.int .u8 (b.toNat : Int)]) = l.map fun b => Value.int .u8 (b.toNat : Int) := fun l => by
      induction l with
      | nil => rfl
      | cons a l ih => rw [List.flatMap_cons, ih]; rfl
    exact hf l
  rw [← e]
  exact h5
end
end Go.Proofs.YthjaepmfkgejkaaGreatDoor
