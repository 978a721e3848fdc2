/-
  What the reference's predicates of layer 7 give. Conditions: a text's length is an int's (2^40 where runes are listed).
  What the reference's jF gives. Condition: a text of at most 2^40 bytes.
  What the reference's Path, Parts and Texts give, and the program's Parts. Condition: the library's variable MaxLen holds a number; a text's length is an int's.
-/
import Derived.Test.YthjaepmfkgejkaaGreatDoorMerged6
import Derived.Test.YthjaepmfkgejkaaGreatDoorMerged16
set_option linter.unusedVariables false
set_option maxHeartbeats 4000000
set_option maxRecDepth 100000
namespace Go.Proofs.YthjaepmfkgejkaaGreatDoor
open Lib (hid)
open Go.RowKit
def RF (s : ByteArray) (w : World) (e : Ending) (w' : World) : Prop := Below w.heap.size w w' ∧ e = .returned (.bool (jE s jo))
theorem ZI (s : ByteArray) (w : World) (hs : s.size ≤ 1099511627776) : Calls Tryz.prog 106 #[.string s] w (RF s w) := by
  go_enter Tryz.func106, Tryz.ntmps106
  go_wp2_with fail
  refine (Zr s _ hs).mono ?_
  rintro e w1 ⟨hb1, ⟨l, A, c, hl, rfl, hsl⟩ | ⟨hl, n, rfl⟩⟩
  ·
   have hpl : jE s jo = l.all jo := by unfold jE; rw [hl]
   have HP := hid hpl; clear hpl
   have hll : l.length ≤ s.size := by
     have hgo : ∀ (f pos : Nat) (l : List Nat), KG s f pos = some l → l.length ≤ f := by
       intro f
       induction f with
       | zero => intro pos l h; simp [KG] at h; subst h; simp
       | succ f ih =>
         intro pos l h
         rw [KG] at h
         split at h
         ·
          split at h
          · obtain ⟨l', hl', rfl⟩ := Option.map_eq_some_iff.1 h
            have := ih _ _ hl'
            simp; omega
          · cases h
         · cases h; simp
     exact hgo _ _ _ hl
   clear hl
   have HS := hid hsl; clear hsl
   go_wp2_with fail
   go_loop [6] (fun t => ∃ k : Nat, k ≤ l.length ∧ t = .int .i64 k ∧ Hid (∀ j (h : j < l.length), j < k → jo l[j] = true)) (fun t => l.length - (intOf t).toNat)
   case atStart => exact ⟨0, by omega, rfl, hid fun j _ hj => absurd hj (by omega)⟩
   case round =>
     obtain ⟨k, hk, rfl, hR⟩ := hrel
     by_cases hlt : k < l.length
     ·
      obtain ⟨b, off, rfl, hbl, hcl⟩ := HS.out.2 (by omega)
      have hc := hcl k (.int .i32 (l[k] : Int)) (by simp [i32s, hlt])
      have HCL := hid hcl; clear hcl
      have hstop : jo l[k] = false → jE s jo = false := by
        intro h
        rw [HP.out, List.all_eq_false]
        exact ⟨l[k], List.getElem_mem hlt, by simp [h]⟩
      have hgo : jo l[k] = true → ∀ j (h : j < l.length), j < k + 1 → jo l[j] = true := by
        intro h j hj hjk
        rcases (by omega : j < k ∨ j = k) with h' | h'
        · exact hR.out j hj h'
        · subst h'; exact h
      generalize hr : l[k] = r at *
      clear hr
      have HST := hid hstop; clear hstop
      have HGO := hid hgo; clear hgo
      rcases (by omega : r < 32 ∨ r = 127 ∨ (32 ≤ r ∧ r < 127) ∨ 127 < r) with h | h | h | h
      ·
       have hy : Hid (jE s jo = false) := hid (HST.out (by simp [jo]; omega))
       go_wp2_with fail
       go_ret
       exact ⟨hb1, by rw [hy.out]; rfl⟩
      ·
       subst h
       have hy : Hid (jE s jo = false) := hid (HST.out (by decide))
       go_wp2_with fail
       go_ret
       exact ⟨hb1, by rw [hy.out]; rfl⟩
      ·
       have hy : Hid (jo r = true) := hid (by simp [jo]; omega)
       have h127 : ((r : Int) == 127) = false := by simp; omega
       go_wp2_with fail
       go_round
       case rel => exact ⟨k + 1, by omega, by go_num, hid (HGO.out hy.out)⟩
       case measure => simp [intOf]; omega
      ·
       have hy : Hid (jo r = true) := hid (by simp [jo]; omega)
       have h127 : ((r : Int) == 127) = false := by simp; omega
       go_wp2_with fail
       go_round
       case rel => exact ⟨k + 1, by omega, by go_num, hid (HGO.out hy.out)⟩
       case measure => simp [intOf]; omega
     ·
      go_wp2_with fail
      go_ret
      refine ⟨hb1, ?_⟩
      have : jE s jo = true := by
        rw [HP.out, List.all_eq_true]
        intro x hx
        obtain ⟨j, hj, rfl⟩ := List.getElem_of_mem hx
        exact hR.out j hj (by omega)
      rw [this]; rfl
  ·
   have hpl : jE s jo = false := by unfold jE; rw [hl]
   have HP := hid hpl; clear hpl hl
   go_wp2_with fail
   go_ret
   exact ⟨hb1, by rw [HP.out]; rfl⟩
theorem jp (s : ByteArray) (w : World) (hs : s.size ≤ maxLen) : Calls Tryz.prog 79 #[.string s] w fun e w' => Below w.heap.size w w' ∧ e = .returned (.bool (jM s)) := by
  unfold maxLen at hs
  by_cases h1 : 1 ≤ s.size
  ·
   by_cases h2 : s.size ≤ 32
   ·
    rw [show jM s = jE s jo by simp [jM, h1, h2]]
    go_enter Tryz.func79, Tryz.ntmps79
    go_wp2_with (go_at_call 106; refine (ZI s _ (by omega)).mono ?_; rintro e w1 ⟨hb1, rfl⟩)
    go_ret
    exact ⟨hb1, rfl⟩
   ·
    rw [show jM s = false by simp [jM, h2]]
    go_enter Tryz.func79, Tryz.ntmps79
    go_wp2_with fail
    go_ret
    exact ⟨Below.refl _ _, rfl⟩
  ·
   rw [show jM s = false by simp [jM, h1]]
   go_enter Tryz.func79, Tryz.ntmps79
   go_wp2_with fail
   go_ret
   exact ⟨Below.refl _ _, rfl⟩
theorem Ju (s : ByteArray) (w : World) (hs : s.size ≤ maxLen) : Calls Tryz.prog 81 #[.string s] w fun e w' => Below w.heap.size w w' ∧ e = .returned (.bool (JQ s)) := by
  unfold maxLen at hs
  by_cases h2 : s.size ≤ 256
  ·
   rw [show JQ s = zG s by simp [JQ, h2]]
   go_enter Tryz.func81, Tryz.ntmps81
   go_wp2_with (go_at_call 111; refine (is_any s _ (by omega)).mono ?_; rintro e w1 ⟨hb1, rfl⟩)
   go_ret
   exact ⟨hb1, rfl⟩
  ·
   rw [show JQ s = false by simp [JQ, h2]]
   go_enter Tryz.func81, Tryz.ntmps81
   go_wp2_with fail
   go_ret
   exact ⟨Below.refl _ _, rfl⟩
end Go.Proofs.YthjaepmfkgejkaaGreatDoor
namespace Go.Proofs.YthjaepmfkgejkaaGreatDoor
open Lib (hid)
open Go.RowKit
theorem info_str : (Tryz.prog.info? 9).map (fun i => (i.zero, i.size, i.bytes)) = some (some (.string ByteArray.empty), 1, 16) := by kernel_rfl
def Piecing (s : ByteArray) (q : List ByteArray) (f k : Nat) : Prop :=
  (k ≤ s.size ∧ f ≤ k ∧ jF (L s) = q.map L ++ jF ((L s).drop f) ∧ (∀ j, f ≤ j → j < k → B s j ≠ 47)) ∨ (k = s.size + 1 ∧ jF (L s) = q.map L)
def StrsBack (l : List (List UInt8)) (w : World) (e : Ending) (w' : World) : Prop :=
  Below w.heap.size w w' ∧ ∃ (q : List ByteArray) (A : Option Addr) (c : Nat), q.map L = l ∧ e = .returned (.slice A q.length c) ∧ Sl w' w'.heap.size A q.length 1 (q.map Value.string) ∧ ∀ t ∈ q, t.size ≤ 1099511627776
theorem fin_pieces {s : ByteArray} {q : List ByteArray} (h : jF (L s) = q.map L) (hs : s.size ≤ 1099511627776) : ∀ t ∈ q, t.size ≤ 1099511627776 := by
  have key : ∀ (l : List UInt8) (p : List UInt8), p ∈ jF l → p.length ≤ l.length := by
    intro l
    induction l with
    | nil => intro p hp; simp [jF] at hp; subst hp; simp
    | cons c l ih =>
      intro p hp
      rw [jF] at hp
      split at hp
      · rcases List.mem_cons.1 hp with rfl | hp
        · simp
        · have := ih p hp; simp; omega
      ·
       split at hp
       ·
        rename_i x xs hx
        rcases List.mem_cons.1 hp with rfl | hp
        · have := ih x (by rw [hx]; simp); simp; omega
        · have := ih p (by rw [hx]; simp [hp]); simp; omega
       · simp at hp; subst hp; simp
  intro t ht
  have hm : L t ∈ jF (L s) := by rw [h]; exact List.mem_map_of_mem ht
  have := key _ _ hm
  rw [jW, jW] at this
  omega
theorem pieces_any (s : ByteArray) (w : World) (hs : s.size ≤ 1099511627776) : Calls Tryz.prog 126 #[.string s] w (StrsBack (jF (L s)) w) := by
  have hb := getB s
  go_enter Tryz.func126, Tryz.ntmps126
  go_wp2
  go_loopw [3, 4, 5] (fun v sf si wr => ∃ (q : List ByteArray) (f k : Nat), k ≤ s.size + 1 ∧ f ≤ s.size + 1 ∧ q.length ≤ k ∧ sf = .int .i64 f ∧ si = .int .i64 k ∧ wr.ownsRow w.heap.size 9 1 v q.length (q.map Value.string) ∧ Below w.heap.size w wr ∧ Hid (Piecing s q f k)) (fun _ _ si _ => s.size + 1 - (intOf si).toNat)
  case atStart => exact ⟨[], 0, 0, by omega, by omega, by simp, rfl, rfl, World.ownsRow_nil _ _ _ _, Below.refl _ _, hid (.inl ⟨by omega, by omega, by simp, fun j h1 h2 => absurd h2 (by omega)⟩)⟩
  case round =>
    obtain ⟨q, f, k, hk, hf, hql, rfl, rfl, hown, hbw, hP⟩ := hrel
    by_cases hlt : k < s.size
    ·
     have hB := KJ s k
     have hke : ((k : Int) == (s.size : Int)) = false := by simp; omega
     obtain ⟨hk1, hfk, hp1, hp2⟩ : k ≤ s.size ∧ f ≤ k ∧ jF (L s) = q.map L ++ jF ((L s).drop f) ∧ (∀ j, f ≤ j → j < k → B s j ≠ 47) := by
       rcases hP.out with h | h
       · exact h
       · omega
     have HP1 := hid hp1; clear hp1
     have HP2 := hid hp2; clear hp2
     by_cases h47 : B s k = 47
     ·
      have h47' : (((B s k : Nat) : Int) == 47) = true := by rw [h47]; rfl
      have H47 := hid h47; clear h47
      go_wp2_with (at_builtin; refine Ko rfl _ _ 175 rfl w.heap.size 9 (.string ByteArray.empty) 16 Tryz.underlying175 info_str rfl _ _ _ rfl hown _ _ rfl rfl ?c1 ?c2 ?c3 ?_)
      case c1 => unfold maxLen; omega
      case c2 => omega
      case c3 => exact hbw.size
      intro v' w2 hown2 hbel
      have hb2 := hbel _ _ (Nat.le_refl _) hbw
      clear hbel
      go_wp2_with fail
      go_roundw
      case rel =>
        refine ⟨q ++ [s.extract f k], k + 1, k + 1, by omega, by omega, by simp; omega, by go_num, by go_num, ?_, hb2, hid (.inl ⟨by omega, by omega, ?_, fun j h1 h2 => absurd h2 (by omega)⟩)⟩
        · simpa using hown2
        · rw [HP1.out, pieces_at hfk hlt H47.out HP2.out]; simp
      case measure => simp [intOf]; omega
     ·
      have h47' : (((B s k : Nat) : Int) == 47) = false := by simp; omega
      have H47 := hid h47; clear h47
      go_wp2_with fail
      go_roundw
      case rel =>
        refine ⟨q, f, k + 1, by omega, by omega, by omega, rfl, by go_num, hown, hbw, hid (.inl ⟨by omega, by omega, HP1.out, fun j h1 h2 => ?_⟩)⟩
        rcases (by omega : j < k ∨ j = k) with h | h
        · exact HP2.out j h1 h
        · rw [h]; exact H47.out
      case measure => simp [intOf]; omega
    ·
     by_cases hke : k = s.size
     ·
      obtain ⟨hk1, hfk, hp1, hp2⟩ : k ≤ s.size ∧ f ≤ k ∧ jF (L s) = q.map L ++ jF ((L s).drop f) ∧ (∀ j, f ≤ j → j < k → B s j ≠ 47) := by
        rcases hP.out with h | h
        · exact h
        · omega
      subst hke
      have HP1 := hid hp1; clear hp1
      have HP2 := hid hp2; clear hp2
      go_wp2_with (at_builtin; refine Ko rfl _ _ 175 rfl w.heap.size 9 (.string ByteArray.empty) 16 Tryz.underlying175 info_str rfl _ _ _ rfl hown _ _ rfl rfl ?c1 ?c2 ?c3 ?_)
      case c1 => unfold maxLen; omega
      case c2 => omega
      case c3 => exact hbw.size
      intro v' w2 hown2 hbel
      have hb2 := hbel _ _ (Nat.le_refl _) hbw
      clear hbel
      go_wp2_with fail
      go_roundw
      case rel =>
        refine ⟨q ++ [s.extract f s.size], s.size + 1, s.size + 1, by omega, by omega, by simp; omega, by go_num, by go_num, ?_, hb2, hid (.inr ⟨rfl, ?_⟩)⟩
        · simpa using hown2
        · rw [HP1.out, pieces_end hfk HP2.out]; simp
      case measure => simp [intOf]
     ·
      go_wp2_with fail
      go_ret
      obtain ⟨A, c, hv⟩ := own_form hown
      have hfin : jF (L s) = q.map L := by
        rcases hP.out with h | h
        · omega
        · exact h.2
      refine ⟨hbw, q, A, c, hfin.symm, ?_, ?_, fin_pieces hfin hs⟩
      · rw [← hv]; rfl
      · rw [hv] at hown
        exact Sl.of_own hown
end Go.Proofs.YthjaepmfkgejkaaGreatDoor
namespace Go.Proofs.YthjaepmfkgejkaaGreatDoor
open Lib (hid)
open Go.RowKit
theorem QC {s : ByteArray} {q : List ByteArray} (hq : q.map L = jF (L s)) (h1 : ¬ s.size < 1) (h2 : ¬ 64 < s.size) (hp : jE s jo = true) : jK s = (q.map L).all Kv := by
  rw [hq]; simp [jK, hp]; omega
theorem Z7 (s : ByteArray) (w : World) (hs : s.size ≤ maxLen) : Calls Tryz.prog 108 #[.string s] w fun e w' => Below w.heap.size w w' ∧ e = .returned (.bool (jK s)) := by
  unfold maxLen at hs
  by_cases h1 : s.size < 1
  ·
   rw [show jK s = false by simp [jK]; omega]
   go_enter Tryz.func108, Tryz.ntmps108
   go_wp2_with fail
   go_ret
   exact ⟨Below.refl _ _, rfl⟩
  by_cases h2 : 64 < s.size
  ·
   rw [show jK s = false by simp [jK]; omega]
   go_enter Tryz.func108, Tryz.ntmps108
   go_wp2_with fail
   go_ret
   exact ⟨Below.refl _ _, rfl⟩
  have hs' : s.size ≤ 1099511627776 := by omega
  cases hp : jE s jo
  ·
   have HP := hid hp; clear hp
   rw [show jK s = false by simp [jK, HP.out]]
   go_enter Tryz.func108, Tryz.ntmps108
   go_wp2_with (go_at_call 106; refine (ZI s _ hs').mono ?_; unfold RF; rw [HP.out]; rintro e w1 ⟨hb1, rfl⟩)
   go_ret
   exact ⟨hb1, rfl⟩
  ·
   have HP := hid hp; clear hp
   go_enter Tryz.func108, Tryz.ntmps108
   go_wp2_with (go_at_call 106; refine (ZI s _ hs').mono ?_; unfold RF; rw [HP.out]; rintro e w1 ⟨hb1, rfl⟩)
   refine (pieces_any s _ hs').mono ?_
   rintro e w2 ⟨hb2, q, A, c, hq, rfl, hsl, _⟩
   have HN : Hid (jK s = (q.map L).all Kv) := hid (QC hq h1 h2 HP.out)
   have hql : q.length ≤ 65 := by
     have h := congrArg List.length hq
     rw [List.length_map] at h
     have h' := vI s
     have h'' := congrArg List.length h'
     rw [List.length_map, ← h] at h''
     have h3 := Lib.splitB_length_le zQ 0 (Lib.countB s zQ) s
     have h4 := Lib.countB_le zQ (by decide) _ s (Nat.le_refl _)
     omega
   have HS := hid hsl; clear hsl
   have HQ := hid hq; clear hq
   have hbw : Below w.heap.size w w2 := hb1.trans (hb2.mono hb1.size)
   go_wp2_with fail
   go_loop [4] (fun t => ∃ k : Nat, k ≤ q.length ∧ t = .int .i64 k ∧ Hid (∀ j (h : j < q.length), j < k → Kv (L q[j]) = true)) (fun t => q.length - (intOf t).toNat)
   case atStart => exact ⟨0, by omega, rfl, hid fun j _ hj => absurd hj (by omega)⟩
   case round =>
     obtain ⟨k, hk, rfl, hR⟩ := hrel
     by_cases hlt : k < q.length
     ·
      obtain ⟨b, off, rfl, hbl, hcl⟩ := HS.out.2 (by omega)
      have hc := hcl k (.string q[k]) (by simp [hlt])
      clear hcl
      have hpe := piece_eq q[k]
      have hstop : Kv (L q[k]) = false → jK s = false := by
        intro h
        rw [HN.out, List.all_eq_false]
        exact ⟨L q[k], List.mem_map_of_mem (List.getElem_mem hlt), by simp [h]⟩
      have hgo : Kv (L q[k]) = true → ∀ j (h : j < q.length), j < k + 1 → Kv (L q[j]) = true := by
        intro h j hj hjk
        rcases (by omega : j < k ∨ j = k) with h' | h'
        · exact hR.out j hj h'
        · subst h'; exact h
      generalize hqk : q[k] = p at *
      clear hqk
      have HPE := hid hpe; clear hpe
      have HST := hid hstop; clear hstop
      have HGO := hid hgo; clear hgo
      cases e1 : p.toList.isEmpty
      ·
       cases e2 : (p.toList == [46])
       ·
        cases e3 : (p.toList == [46, 46])
        ·
         have hy : Hid (Kv (L p) = true) := hid (by rw [HPE.out, e1, e2, e3]; rfl)
         go_wp2_with fail
         go_round
         case rel => exact ⟨k + 1, by omega, by go_num, hid (HGO.out hy.out)⟩
         case measure => simp [intOf]; omega
        ·
         have hy : Hid (jK s = false) := hid (HST.out (by rw [HPE.out, e1, e2, e3]; rfl))
         go_wp2_with fail
         go_ret
         exact ⟨hbw, by rw [hy.out]; rfl⟩
       ·
        have hy : Hid (jK s = false) := hid (HST.out (by rw [HPE.out, e1, e2]; rfl))
        go_wp2_with fail
        go_ret
        exact ⟨hbw, by rw [hy.out]; rfl⟩
      ·
       have hy : Hid (jK s = false) := hid (HST.out (by rw [HPE.out, e1]; rfl))
       go_wp2_with fail
       go_ret
       exact ⟨hbw, by rw [hy.out]; rfl⟩
     ·
      go_wp2_with fail
      go_ret
      refine ⟨hbw, ?_⟩
      have : jK s = true := by
        rw [HN.out, List.all_eq_true]
        intro x hx
        obtain ⟨y, hy, rfl⟩ := List.mem_map.1 hx
        obtain ⟨j, hj, rfl⟩ := List.getElem_of_mem hy
        exact hR.out j hj (by omega)
      rw [this]; rfl
end Go.Proofs.YthjaepmfkgejkaaGreatDoor
