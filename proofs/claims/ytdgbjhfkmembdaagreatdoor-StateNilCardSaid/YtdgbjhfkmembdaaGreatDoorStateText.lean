/-
  The text of the document that has a path. Conditions: the state lies in memory; at most 90 claims; the document has at most 65536 runs of at most 65536 runes that are encoded as they should.
-/
import Derived.Test.YtdgbjhfkmembdaaGreatDoorStateFind
import Derived.Test.YtdgbjhfkmembdaaGreatDoorDocText
namespace Go.Proofs.YtdgbjhfkmembdaaGreatDoor
open Go.RowKit Go.Maps
set_option linter.unusedVariables false
set_option linter.unusedSimpArgs false

set_option maxHeartbeats 4000000 in
set_option maxRecDepth 100000 in
theorem stext_core (sp : Value) (p : ByteArray) (kk : KeyD) (hkk : (keyV kk).length = 34) (dp : Option Addr) (n : Int) (tx : ByteArray) (w : World)
    (hf : Calls Tryz.prog 40 #[sp, .string p] w fun e w' => Below w.heap.size w w' ∧ e = .returned (.tuple #[.agg (keyV kk).toArray, .pointer dp, .int .i64 n]))
    (ht : ∀ u, Below w.heap.size w u → Calls Tryz.prog 36 #[.pointer dp] u fun e w' => Below u.heap.size u w' ∧ e = .returned (.string tx)) :
    Calls Tryz.prog 25 #[sp, .string p] w fun e w' => Below w.heap.size w w' ∧ e = .returned (.tuple #[.string tx, .int .i64 n]) := by
  have HF := Lib.hid hf; have HT := Lib.hid ht; have HL := Lib.hid hkk
  clear hf ht hkk
  go_enter Tryz.func25, Tryz.ntmps25
  go_wp2_with (first
    | (go_at_call 40; refine HF.out.mono ?_; rintro e W1 ⟨hb1, rfl⟩
       have HB1 := Lib.hid hb1
       clear hb1)
    | (go_at_call 36; refine (HT.out _ HB3.out).mono ?_; rintro e W4 ⟨hb4, rfl⟩
       have HB4 := Lib.hid (HB3.out.trans (hb4.mono HB3.out.size))
       clear hb4)
    | (with_reducible refine at_alloc ?_
       refine wp_allocM (by rfl) 89 rfl (keyV (0, zero32, 0)) (keyZ_run _) ?_
       intro W2 hb2 hy2 hs2
       have HB2 := Lib.hid (HB1.out.trans (hb2.mono HB1.out.size)); have HY2 := Lib.hid hy2
       clear hb2 hy2 hs2)
    | (with_reducible refine at_store ?_
       refine wp_storeM (by rfl) 89 _ _ rfl W1.heap.size 0 [] (keyV (0, zero32, 0)) [] (keyV kk) 89 (.agg (keyV kk).toArray) rfl rfl rfl rfl (by simpa using HY2.out) (by rw [HL.out]; rfl) (by rw [HL.out]; kernel_rfl) (keyV_one _) ?_
       intro W3 hb3 hy3 hs3
       have HB3 := Lib.hid (HB2.out.trans (hb3.below (B := w.heap.size) HB2.out.size (fun k hk e => by have e2 : k = W1.heap.size := e; have := HB1.out.size; omega)))
       clear hb3 hy3 hs3))
  go_ret2
  exact ⟨HB4.out, rfl⟩
/-- A document small enough to be written out. -/
def SmallD (d : List RunD) : Prop := d.length ≤ 65536 ∧ ∀ r ∈ d, r.2.1.length ≤ 65536 ∧ ∀ u ∈ r.2.1, EncIs u
theorem DocAt.text {w : World} {B p : Nat} {v : Value} {d : List RunD} (h : DocAt w B p v d) (hd : SmallD d) :
    Calls Tryz.prog 36 #[.pointer (some ⟨p, 0, none⟩)] w fun e w' => Below w.heap.size w w' ∧ e = .returned (.string ⟨(textR d).toArray⟩) := by
  obtain ⟨rs, hr, hI, ho⟩ := h.rows
  have hm : ∀ r ∈ rs, r.2.2.1.length ≤ 65536 ∧ ∀ u ∈ r.2.2.1, EncIs u := fun r hrr => hd.2 (runOf r) (by rw [← hr]; exact List.mem_map_of_mem hrr)
  have := dtext_run rs B p v w ⟨h.box, h.low, hI, ho⟩ (fun r hrr => (hm r hrr).2) (by have := hd.1; rw [← hr, List.length_map] at this; exact this) (fun r hrr => (hm r hrr).1)
  rw [hr] at this
  exact this
/-- The text at a path, and the number that goes with it. -/
def textAt (S : StateD) (p : ByteArray) : List UInt8 := match findS S.2.1 (L p) with
  | none => []
  | some k => textR ((docAt S k).getD [])
def errAt (S : StateD) (p : ByteArray) : Int := match findS S.2.1 (L p) with
  | none => 4
  | some k => 0
set_option maxRecDepth 100000 in
theorem stext_any (B s : Nat) (S : StateD) (q : StateL) (p : ByteArray) (w : World) (h : StateAt w B s S q) (hl : S.2.1.length ≤ 90) (hsm : ∀ x ∈ S.2.1, x.2.2.2.size ≤ 1073741824) (hg : Glob w) (hk : KeyOk ((findS S.2.1 (L p)).getD zeroKd)) (hd : ∀ k d, findS S.2.1 (L p) = some k → docAt S k = some d → SmallD d) :
    Calls Tryz.prog 25 #[.pointer (some ⟨s, 0, none⟩), .string p] w fun e w' => Below w.heap.size w w' ∧ e = .returned (.tuple #[.string ⟨(textAt S p).toArray⟩, .int .i64 (errAt S p)]) := by
  have hf := sfind_any B s S q p w h hl hsm hg hk
  unfold FindRes at hf
  unfold textAt errAt
  obtain ⟨o, ho⟩ : ∃ o, findS S.2.1 (L p) = o := ⟨_, rfl⟩
  rw [ho] at hk hf ⊢
  cases o with
  | none => exact stext_core _ p (0, zero32, 0) rfl none 4 _ w hf fun u hu => dtext_nil u
  | some k =>
    obtain ⟨od, hod⟩ : ∃ o, docAt S k = o := ⟨_, rfl⟩
    have hp : docPtr S q k = .pointer (od.map fun _ => ⟨q.ptr k, 0, none⟩) := by unfold docPtr; rw [hod]; cases od <;> rfl
    dsimp only at hf
    rw [hp] at hf
    refine stext_core _ p k (keyV_length hk) _ 0 _ w hf fun u hu => ?_
    dsimp only
    rw [hod]
    cases od with
    | none => exact dtext_nil u
    | some d => exact ((h.docs k d hod).2.keep hu).text (hd k d ho hod)
theorem stext_nil (p : ByteArray) (w : World) : Calls Tryz.prog 25 #[.pointer none, .string p] w fun e w' => Below w.heap.size w w' ∧ e = .returned (.tuple #[.string ⟨#[]⟩, .int .i64 1]) :=
  stext_core (.pointer none) p (0, zero32, 0) rfl none 1 _ w (find_nil p w) fun u hu => dtext_nil u
end Go.Proofs.YtdgbjhfkmembdaaGreatDoor
