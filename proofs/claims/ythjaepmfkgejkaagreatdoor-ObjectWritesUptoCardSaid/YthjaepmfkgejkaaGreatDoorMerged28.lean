/-
  The document's Set and Union of ids. Conditions: at most 2^30 ids.
  The document's Links. Conditions: lists of at most 2^30.
  The document's Size. Conditions: texts of at most 2^40.
-/
import Derived.Test.YthjaepmfkgejkaaGreatDoorMerged1
import Derived.Test.YthjaepmfkgejkaaGreatDoorMerged27
import Derived.Test.YthjaepmfkgejkaaGreatDoorOrdUnion
import Derived.Test.YthjaepmfkgejkaaGreatDoorMerged26
import Derived.Test.YthjaepmfkgejkaaGreatDoorMerged20
set_option linter.unusedVariables false
set_option linter.unusedSimpArgs false
set_option maxHeartbeats 4000000
set_option maxRecDepth 100000
namespace Go.Proofs.YthjaepmfkgejkaaGreatDoor
open Lib (hid)
open Go.RowKit Go.Maps
theorem qz {l : List (List UInt8)} (h : zZ l) (hn : l.Nodup) : kI l = true :=
  KV (List.Pairwise.imp (fun {a b} h => by
    have h1 := h.1
    have h2 : kX a b ≠ 0 := fun e => h.2 (K6.1 e)
    omega) (List.pairwise_and_iff.2 ⟨h, hn⟩))
theorem Uj (l : List (List UInt8)) (A : Option Addr) (c : Nat) (w : World) (hl : l.length ≤ 1073741824) (ho : IdsOk l) (hs : Sl w w.heap.size A l.length 32 (kr l)) :
    Calls Tryz.prog 48 #[.slice A l.length c] w (JZ l w) := by
  have HOK := hid ho; have HS := hid hs
  clear ho hs
  go_enter Tryz.func48, Tryz.ntmps48
  go_upto_region 3 with fail
  go_loopw [4, 3] (fun t4 t3 wr => ∃ (i : Nat) (o : List (List UInt8)) (Ao : Option Addr) (co : Nat), i ≤ l.length ∧ t4 = .int .i64 (i : Int) ∧ t3 = .slice Ao o.length co ∧ Hid (wr.ownsRow w.heap.size 47 32 (.slice Ao o.length co) o.length (kr o)) ∧ Hid (Below w.heap.size w wr) ∧ Hid (o.Nodup ∧ (∀ y, y ∈ o ↔ y ∈ l.take i) ∧ o.length ≤ i)) (fun t4 _ _ => l.length - (intOf t4).toNat)
  case atStart => exact ⟨0, [], none, 0, Nat.zero_le _, rfl, rfl, hid (World.ownsRow_nil _ _ _ _), hid (qB _ _), hid ⟨List.nodup_nil, by simp, qR _⟩⟩
  case round =>
    obtain ⟨i, o, Ao, co, hi, rfl, rfl, HOW, HB, HSP⟩ := hrel
    have hol2 : o.length ≤ 1073741824 := qT HSP.out.2.2 (by omega)
    have HOO := hid (show IdsOk o from fun y hy => HOK.out y (List.mem_of_mem_take ((HSP.out.2.1 y).1 hy)))
    by_cases hlt : i < l.length
    ·
     have i1 : (i : Int) < (l.length : Int) := by omega
     obtain ⟨x, hx⟩ : ∃ x, l[i] = x := ⟨_, rfl⟩
     have HXO := hid (show Ke x from hx ▸ HOK.out _ (List.getElem_mem _))
     obtain ⟨b, off, rfl, hbl, hcl⟩ := HS.out.2 (by omega)
     have HLX := hid (fun (u : World) (hu : Below w.heap.size w u) => (show u.rangeAt b (off + i * 32) (idV x) from fun j v hj => (hu.cell (p := ⟨b, off + i * 32 + j, none⟩) hbl).trans (Sl.id (B := 0) HOK.out hcl hlt j v (by rw [hx]; exact hj))))
     have HTK := hid (show l.take (i + 1) = l.take i ++ [x] by rw [List.take_succ_eq_append_getElem hlt, hx])
     clear hcl hx
     by_cases hin : x ∈ o
     ·
      have HIN := hid (dT hin)
      go_wp2_with (first
        | (with_reducible refine k7 ?_
           refine k6 (by rfl) (k9 47 _ rfl (p := ⟨b, off + i * 32, none⟩) rfl (qV _ _ _ _ (idV x) _ (HLX.out _ HB.out) Tryz.underlying47 rfl (by rw [k8, HXO.out]; exact kt))) ?_)
        | (go_at_call 85; refine (vC o x Ao co wr (by omega) HOO.out HXO.out ((Sl.of_own HOW.out))).mono ?_
           rintro e w8 ⟨hb8, rfl⟩
           rw [HIN.out]
           have HB8 := hid (HB.out.trans (hb8.mono HB.out.size))
           have HOW8 := hid ((But.of_below (X := NoB) hb8).own HOW.out fun _ _ q => q)
           clear hb8))
      go_roundw
      case rel => exact ⟨i + 1, o, Ao, co, by omega, by go_num, rfl, HOW8, HB8, hid ⟨HSP.out.1, fun y => by rw [HTK.out, List.mem_append, List.mem_singleton, HSP.out.2.1]; exact ⟨Or.inl, fun h => h.elim id fun e => by rw [e]; exact (HSP.out.2.1 x).1 hin⟩, qT HSP.out.2.2 (by omega)⟩⟩
      case measure => (simp [intOf]) <;> omega
     ·
      have HIN := hid (dF hin)
      go_wp2_with (first
        | (with_reducible refine k7 ?_
           refine k6 (by rfl) (k9 47 _ rfl (p := ⟨b, off + i * 32, none⟩) rfl (qV _ _ _ _ (idV x) _ (HLX.out _ HB.out) Tryz.underlying47 rfl (by rw [k8, HXO.out]; exact kt))) ?_)
        | (go_at_call 85; refine (vC o x Ao co wr (by omega) HOO.out HXO.out ((Sl.of_own HOW.out))).mono ?_
           rintro e w8 ⟨hb8, rfl⟩
           rw [HIN.out]
           have HB8 := hid (HB.out.trans (hb8.mono HB.out.size))
           have HOW8 := hid ((But.of_below (X := NoB) hb8).own HOW.out fun _ _ q => q)
           clear hb8)
        | (with_reducible refine k7 ?_
           refine k6 (by rfl) (k9 47 _ rfl (p := ⟨b, off + i * 32, none⟩) rfl (qV _ _ _ _ (idV x) _ (HLX.out _ HB8.out) Tryz.underlying47 rfl (by rw [k8, HXO.out]; exact kt))) ?_)
        | (refine za (by rfl) 23 _ rfl 47 Tryz.underlying23 (.agg (idV zero32).toArray) 32 32 zg rfl (by decide) (by decide) (idV x) (by rw [k8, HXO.out]) rfl ?_)
        | (at_builtin; refine ua rfl _ _ 23 rfl w.heap.size 47 (.agg (idV zero32).toArray) 32 32 Tryz.underlying23 zg rfl (by decide) (.slice Ao o.length co) o.length (kr o) rfl HOW8.out (idV x) 47 (by rw [k8, HXO.out]) rfl (ky _) (by unfold maxLen; omega) (by omega) HB8.out.size ?_
           intro v9 w9 ho9 hg9
           obtain ⟨A9, c9, rfl⟩ := kg ho9
           have HO9 := hid ho9
           have HB9 := hid (hg9 w.heap.size w (qR _) HB8.out)
           clear ho9 hg9))
      go_roundw
      case rel =>
        have e1 : (o ++ [x]).length = o.length + 1 := by simp
        refine ⟨i + 1, o ++ [x], A9, c9, by omega, by go_num, by rw [e1], hid ?_, HB9, hid ⟨?_, fun y => by rw [HTK.out, List.mem_append, List.mem_append, HSP.out.2.1], by rw [e1]; have := HSP.out.2.2; omega⟩⟩
        · rw [e1, zO, Ku, show kr [] = [] from rfl, List.append_nil]; exact HO9.out
        · exact List.nodup_append.2 ⟨HSP.out.1, by simp, fun a ha b hb e => by rw [List.mem_singleton.1 hb] at e; exact hin (e ▸ ha)⟩
      case measure => (simp [intOf]) <;> omega
    ·
     have i1 : ¬ (i : Int) < (l.length : Int) := by omega
     obtain rfl : i = l.length := by omega
     go_wp2_with (first
       | (go_at_call 86; refine (QK o Ao co wr (by omega) HOO.out (Sl.of_own HOW.out)).mono ?_
          rintro e w8 ⟨hb8, l', A', c', rfl, how, hso, hpe⟩
          have HB8 := hid (HB.out.trans (hb8.mono HB.out.size)); have HO8 := hid how; have HSR := hid hso; have HPE := hid hpe
          clear hb8 how hso hpe))
     go_ret
     have hm := HSP.out.2.1
     rw [List.take_length] at hm
     exact ⟨HB8.out, l', A', c', rfl, Sl.of_own HO8.out, Jt HO8.out, qz HSR.out (HPE.out.nodup_iff.2 HSP.out.1), fun y => (HPE.out.mem_iff).trans (hm y)⟩
theorem qA (l m : List (List UInt8)) (A A2 : Option Addr) (c c2 : Nat) (w : World) (hl : l.length + m.length ≤ 1073741824) (ho : IdsOk l) (ho2 : IdsOk m) (hs : Sl w w.heap.size A l.length 32 (kr l)) (hs2 : Sl w w.heap.size A2 m.length 32 (kr m)) :
    Calls Tryz.prog 49 #[.slice A l.length c, .slice A2 m.length c2] w (JZ (l ++ m) w) := by
  have HOK := hid (show IdsOk (l ++ m) from fun y hy => (List.mem_append.1 hy).elim (ho y) (ho2 y)); have HS := hid hs; have HS2 := hid hs2
  have HB0 := hid (show Below w.heap.size w (w.alloc (.cells #[] 47)) from (qB _ _).alloc (qR _) _)
  obtain ⟨lm, hlm⟩ : ∃ lm, l ++ m = lm := ⟨_, rfl⟩
  have HLM := hid (show l.length + m.length = lm.length ∧ kr lm = kr l ++ kr m by rw [← hlm, List.length_append, zO]; exact ⟨rfl, rfl⟩)
  rw [hlm] at HOK ⊢
  have hll : lm.length ≤ 1073741824 := by rw [← HLM.out.1]; exact hl
  clear hlm
  clear ho ho2 hs hs2
  go_enter Tryz.func49, Tryz.ntmps49
  go_wp2_with (first
    | (at_builtin; refine kT (o := ⟨some 7, _, _, _, _, _⟩) (by rfl) _ _ 23 rfl w.heap.size 47 (.agg (idV zero32).toArray) 32 32 Tryz.underlying23 zg rfl (by decide) (.slice (some ⟨w.heap.size, 0, none⟩) 0 0) 0 [] rfl (qG w w.heap.size 47 32 (qR _)) A l.length c w.heap.size (kr l) rfl (HS.out.keep HB0.out) (Ky _) (by unfold maxLen; omega) (by omega) HB0.out.size ?_
       intro v6 w6 ho6 hg6
       obtain ⟨A6, c6, rfl⟩ := kg ho6
       have HO := hid (show w6.ownsRow w.heap.size 47 32 (.slice A6 l.length c6) l.length (kr l) by rw [qZ, List.nil_append] at ho6; exact ho6)
       have HB := hid (HB0.out.grown hg6 HB0.out.size (fun k e => by have h : w.heap.size = k := by simpa [Value.ownBlock] using e
                                                                     omega))
       clear ho6 hg6
       rw [qZ])
    | (at_builtin; refine kT (o := ⟨some 9, _, _, _, _, _⟩) (by rfl) _ _ 23 rfl w.heap.size 47 (.agg (idV zero32).toArray) 32 32 Tryz.underlying23 zg rfl (by decide) (.slice A6 l.length c6) l.length (kr l) rfl HO.out A2 m.length c2 w.heap.size (kr m) rfl (HS2.out.keep HB.out) (Ky _) (by unfold maxLen; omega) (by omega) HB.out.size ?_
       intro v7 w7 ho7 hg7
       obtain ⟨A7, c7, rfl⟩ := kg ho7
       have HO7 := hid (show w7.ownsRow w.heap.size 47 32 (.slice A7 lm.length c7) lm.length (kr lm) by rw [← HLM.out.1, HLM.out.2]; exact ho7)
       have HB7 := hid (HB.out.grown hg7 HB.out.size (fun k e => (HO.out.lt k e).1))
       clear ho7 hg7
       rw [HLM.out.1])
    | (go_at_call 48; refine (Uj lm A7 c7 w7 hll HOK.out (Sl.of_own HO7.out)).mono ?_
       rintro e w8 ⟨hb8, l', A', c', rfl, h1, h2, h3, h4⟩
       have HB8 := hid (HB7.out.trans (hb8.mono HB7.out.size)); have H1 := hid h1; have H2 := hid h2; have H3 := hid h3; have H4 := hid h4
       clear hb8 h1 h2 h3 h4))
  go_ret
  exact ⟨HB8.out, l', A', c', rfl, H1.out, H2.out, H3.out, H4.out⟩
end Go.Proofs.YthjaepmfkgejkaaGreatDoor
namespace Go.Proofs.YthjaepmfkgejkaaGreatDoor
open Lib (hid)
open Go.RowKit Go.Maps
theorem qC (o : zR) (v : Value) (w : World) (h : ObjIn w w.heap.size v o) (hl1 : o.2.1.2.1.length ≤ 1073741824) (hl2 : o.2.2.1.length + o.2.2.2.1.length ≤ 1073741824) :
    Calls Tryz.prog 22 #[v] w (JZ (Kc o) w) := by
  obtain ⟨⟨⟨_, oi, _⟩, op1, op2, _⟩, _, _, _, _, Ad, cd, Ao, co, Ap, cp, Ac, cc, rfl, sd, so, sp, sc⟩ := h
  obtain ⟨k, ⟨n, ds, au, os⟩, ⟨ps, cs, a2, ms, st⟩⟩ := o
  dsimp only at *
  have HDI := hid oi; have HPI := hid op1; have HCI := hid op2
  have SD := hid sd; have SP := hid sp; have SC := hid sc
  have HL0 : Hid (([.int .u8 (k.toNat : Int), .int .i64 n, .slice Ad ds.length cd, .string au, .slice Ao os.length co, .slice Ap ps.length cp, .slice Ac cs.length cc, .string a2, .string ms, .int .i64 st] : List Value).length = 10) := hid rfl
  clear oi op1 op2 sd so sp sc
  go_enter Tryz.func22, Tryz.ntmps22
  go_upto_region 1 with (first
    | (with_reducible refine kz ?_
       refine ko (by rfl) 30 _ rfl [.int .u8 (k.toNat : Int), .int .i64 n, .slice Ad ds.length cd, .string au, .slice Ao os.length co, .slice Ap ps.length cp, .slice Ac cs.length cc, .string a2, .string ms, .int .i64 st] (.agg ([.int .u8 (k.toNat : Int), .int .i64 n, .slice Ad ds.length cd, .string au, .slice Ao os.length co, .slice Ap ps.length cp, .slice Ac cs.length cc, .string a2, .string ms, .int .i64 st]).toArray) rfl rfl (by rw [HL0.out]; kernel_rfl) ?_
       intro W0 hb0 hz0 hs0
       have HB0 := hid hb0; have HZ0 := hid hz0; have HS0 := hid hs0
       clear hb0 hz0 hs0))
  obtain ⟨zb, hzb⟩ : ∃ x, w.heap.size = x := ⟨_, rfl⟩
  rw [hzb] at HZ0 ⊢
  try go_frame
  have c0 : W0.cell? ⟨zb, 0, none⟩ = some (.int .u8 (k.toNat : Int)) := k5 HZ0.out 0
  have c2 : W0.cell? ⟨zb, 2, none⟩ = some (.slice Ad ds.length cd) := k5 HZ0.out 2
  have c5 : W0.cell? ⟨zb, 5, none⟩ = some (.slice Ap ps.length cp) := k5 HZ0.out 5
  have c6 : W0.cell? ⟨zb, 6, none⟩ = some (.slice Ac cs.length cc) := k5 HZ0.out 6
  clear hzb HS0
  by_cases h1 : k = 1
  ·
   have e1 : ((k.toNat : Int) == 1) = true := by rw [h1]; rfl
   have HK := hid (show Kc (k, (n, ds, au, os), (ps, cs, a2, ms, st)) = ds by unfold Kc; rw [if_pos h1])
   clear h1
   go_wp2_with (first
     | (go_at_call 48; refine (Uj ds Ad cd W0 (by omega) HDI.out ((SD.out.keep HB0.out).more HB0.out.size)).mono ?_
        rintro e w8 ⟨hb8, l', A', c', rfl, h1, h2, h3, h4⟩
        have HB8 := hid (HB0.out.trans (hb8.mono HB0.out.size)); have H1 := hid h1; have H2 := hid h2; have H3 := hid h3; have H4 := hid h4
        clear hb8 h1 h2 h3 h4))
   go_ret
   rw [HK.out]
   exact ⟨HB8.out, l', A', c', rfl, H1.out, H2.out, H3.out, H4.out⟩
  ·
   have e1 : ((k.toNat : Int) == 1) = false := by
     rw [beq_eq_false_iff_ne]; intro h; exact h1 (by apply UInt8.toNat_inj.1; show k.toNat = 1; omega)
   by_cases h2 : k = 2
   ·
    have e2 : ((k.toNat : Int) == 2) = true := by rw [h2]; rfl
    have HK := hid (show Kc (k, (n, ds, au, os), (ps, cs, a2, ms, st)) = ps ++ cs by unfold Kc; rw [if_neg h1, if_pos h2])
    clear h1 h2
    go_wp2_with (first
      | (go_at_call 49; refine (qA ps cs Ap Ac cp cc W0 (by omega) HPI.out HCI.out ((SP.out.keep HB0.out).more HB0.out.size) ((SC.out.keep HB0.out).more HB0.out.size)).mono ?_
         rintro e w8 ⟨hb8, l', A', c', rfl, h1, h2, h3, h4⟩
         have HB8 := hid (HB0.out.trans (hb8.mono HB0.out.size)); have H1 := hid h1; have H2 := hid h2; have H3 := hid h3; have H4 := hid h4
         clear hb8 h1 h2 h3 h4))
    go_ret
    rw [HK.out]
    exact ⟨HB8.out, l', A', c', rfl, H1.out, H2.out, H3.out, H4.out⟩
   ·
    have e2 : ((k.toNat : Int) == 2) = false := by
      rw [beq_eq_false_iff_ne]; intro h; exact h2 (by apply UInt8.toNat_inj.1; show k.toNat = 2; omega)
    have HK := hid (show Kc (k, (n, ds, au, os), (ps, cs, a2, ms, st)) = [] by unfold Kc; rw [if_neg h1, if_neg h2])
    clear h1 h2
    go_wp2_with fail
    go_ret
    rw [HK.out]
    exact ⟨HB0.out, [], none, 0, rfl, Sl.nil, Nat.le_refl _, rfl, fun x => Iff.rfl⟩
end Go.Proofs.YthjaepmfkgejkaaGreatDoor
namespace Go.Proofs.YthjaepmfkgejkaaGreatDoor
open Lib (hid)
open Go.RowKit Go.Maps
theorem runes_len {s : ByteArray} {e : Ending} {w' : World} (h : (∃ l A c, zU s = some l ∧ e = .returned (.tuple #[.slice A l.length c, .int .i64 0, .int .i64 0]) ∧ Sl w' w'.heap.size A l.length 1 (i32s l)) ∨
    zU s = none ∧ ∃ n : Int, e = .returned (.tuple #[.slice none 0 0, .int .i64 n, .int .i64 5])) : ∃ A c n1 n2, e = .returned (.tuple #[.slice A (uE s) c, .int .i64 n1, .int .i64 n2]) := by
  rcases h with ⟨l, A, c, h1, h2, _⟩ | ⟨h1, n, h2⟩
  ·
   refine ⟨A, c, 0, 0, ?_⟩
   rw [h2]
   unfold uE zH zG
   rw [h1]; rfl
  ·
   refine ⟨none, 0, n, 5, ?_⟩
   rw [h2]
   unfold uE zH zG
   rw [h1]; rfl
theorem QL (c : zL) (v : Value) (w : World) (h : ChIn w w.heap.size v c) (hl : c.2.2.2.length ≤ 1099511627776) (hz : szL c.2.2.2 ≤ 4611686018427387904) (ht : ∀ x ∈ c.2.2.2, x.2.2.2.1.size ≤ 1099511627776) :
    Calls Tryz.prog 19 #[v] w fun e w' => Below w.heap.size w w' ∧ e = .returned (.int .i64 ((szL c.2.2.2 : Nat) : Int)) := by
  obtain ⟨ok, hop, ha, Ad, cd, Ao, co, rfl, sd, so⟩ := h
  obtain ⟨n, ds, au, os⟩ := c
  dsimp only at *
  have HSO := hid so; have HOP := hid hop; have HT := hid ht
  clear ok hop ha sd so ht
  go_enter Tryz.func19, Tryz.ntmps19
  go_upto_region 1 with (first
    | (with_reducible refine kz ?_
       refine ko (by rfl) 26 _ rfl [.int .i64 n, .slice Ad ds.length cd, .string au, .slice Ao os.length co] _ rfl rfl (by kernel_rfl) ?_
       intro W0 hb0 hz0 hs0
       have HB0 := hid hb0; have HZ0 := hid hz0; have HS0 := hid hs0
       clear hb0 hz0 hs0))
  obtain ⟨zc, hzc⟩ : ∃ x, w.heap.size = x := ⟨_, rfl⟩
  have HZL := hid (show zc < W0.heap.size by have := HS0.out; omega)
  rw [hzc] at HZ0 ⊢
  try go_frame
  clear hzc HS0
  go_upto_region 3 with fail
  go_loopw [4, 3] (fun t4 t3 wr => ∃ i : Nat, i ≤ os.length ∧ t4 = .int .i64 (i : Int) ∧ t3 = .int .i64 ((szL (os.take i) : Nat) : Int) ∧ Hid (Below W0.heap.size W0 wr)) (fun t4 _ _ => os.length - (intOf t4).toNat)
  case atStart => exact ⟨0, Nat.zero_le _, rfl, rfl, hid (Below.refl _ _)⟩
  case round =>
    obtain ⟨i, hi, rfl, rfl, HB⟩ := hrel
    have c3 : wr.cell? ⟨zc, 3, none⟩ = some (.slice Ao os.length co) := (HB.out.cell (p := ⟨zc, 3, none⟩) HZL.out).trans (k5 HZ0.out 3)
    by_cases hlt : i < os.length
    ·
     have hbw := HB0.out.trans (HB.out.mono HB0.out.size)
     obtain ⟨b, off, rfl, hbl, hcl⟩ := (HSO.out.keep hbw).2 (by omega)
     have i0 : (0 : Int) ≤ (i : Int) := by omega
     have i1 : (i : Int) < (os.length : Int) := by omega
     have HROW := hid (Sl.row (fun x hx => kq (HOP.out x hx)) hcl hlt)
     have HX := hid (HOP.out _ (List.getElem_mem hlt))
     have HTX := hid (HT.out _ (List.getElem_mem hlt))
     have HNX := hid (szL_next hlt)
     have hle := QA os i
     have hle2 := QA os (i + 1)
     clear hcl hbl hbw
     generalize os[i] = x at *
     generalize szL (os.take i) = q at *
     have HOC := hid (kn HX.out)
     have ck : wr.cell? ⟨b, off + i * 70, none⟩ = some (.int .u8 (x.1.toNat : Int)) := HROW.out 0 _ HOC.out.1
     have ct : wr.cell? ⟨b, off + i * 70 + 67, none⟩ = some (.string x.2.2.2.1) := HROW.out 67 _ HOC.out.2.2.2.1
     by_cases hk : x.1 = 3
     ·
      have e3 : ((x.1.toNat : Int) == 3) = true := by rw [hk]; rfl
      have e1 : ((x.1.toNat : Int) == 1) = false := by rw [hk]; rfl
      have HZN : Hid (vn x = 1) := hid (by unfold vn; rw [if_pos hk])
      have hzn := HZN.out
      have hnx := HNX.out
      rw [hzn] at hnx
      clear hk hzn
      go_wp2_with fail
      go_roundw
      case rel => exact ⟨i + 1, by omega, by go_num, by rw [hnx]; go_num, HB⟩
      case measure => (simp [intOf]) <;> omega
     ·
      have e3 : ((x.1.toNat : Int) == 3) = false := by
        rw [beq_eq_false_iff_ne]; intro h; exact hk (by apply UInt8.toNat_inj.1; show x.1.toNat = 3; omega)
      by_cases hk1 : x.1 = 1
      ·
       have e1 : ((x.1.toNat : Int) == 1) = true := by rw [hk1]; rfl
       have HZN : Hid (vn x = uE x.2.2.2.1) := hid (by unfold vn; rw [if_neg hk, if_pos hk1])
       have hzn := HZN.out
       have hnx := HNX.out
       rw [hzn] at hnx
       clear hk hk1 hzn
       obtain ⟨m, hm⟩ : ∃ m, uE x.2.2.2.1 = m := ⟨_, rfl⟩
       have HM := hid hm
       rw [hm] at hnx
       clear hm
       go_wp2_with (first
         | (go_at_call 45; refine (Zr x.2.2.2.1 wr HTX.out).mono ?_
            rintro e w8 ⟨hb8, hr⟩
            have HB8 := hid (HB.out.trans (hb8.mono HB.out.size))
            clear hb8
            obtain ⟨A8, c8, n1, n2, rfl⟩ := runes_len hr
            clear hr
            rw [HM.out]))
       go_roundw
       case rel => exact ⟨i + 1, by omega, by go_num, by rw [hnx]; go_num, HB8⟩
       case measure => (simp [intOf]) <;> omega
      ·
       have e1 : ((x.1.toNat : Int) == 1) = false := by
         rw [beq_eq_false_iff_ne]; intro h; exact hk1 (by apply UInt8.toNat_inj.1; show x.1.toNat = 1; omega)
       have HZN : Hid (vn x = 0) := hid (by unfold vn; rw [if_neg hk, if_neg hk1])
       have hzn := HZN.out
       have hnx := HNX.out
       rw [hzn] at hnx
       clear hk hk1 hzn
       go_wp2_with fail
       go_roundw
       case rel => exact ⟨i + 1, by omega, by go_num, by rw [hnx]; rfl, HB⟩
       case measure => (simp [intOf]) <;> omega
    ·
     have i1 : ¬ (i : Int) < (os.length : Int) := by omega
     obtain rfl : i = os.length := by omega
     go_wp2_with fail
     go_ret
     exact ⟨HB0.out.trans (HB.out.mono HB0.out.size), rfl⟩
end Go.Proofs.YthjaepmfkgejkaaGreatDoor
