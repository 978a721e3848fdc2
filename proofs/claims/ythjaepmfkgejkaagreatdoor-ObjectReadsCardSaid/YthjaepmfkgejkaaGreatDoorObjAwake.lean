/-
  The chapter's examples of layer 8 hold (awake). Conditions: the library's variable MaxLen holds a number.
-/
import Derived.Test.YthjaepmfkgejkaaGreatDoorObjEncode
import Derived.Test.YthjaepmfkgejkaaGreatDoorObjSize
import Derived.Test.YthjaepmfkgejkaaGreatDoorObjDecode2
import Derived.Test.YthjaepmfkgejkaaGreatDoorMem2
import Derived.Test.YthjaepmfkgejkaaGreatDoorAppO
import Derived.Test.YthjaepmfkgejkaaGreatDoorObjIds2
namespace Go.Proofs.YthjaepmfkgejkaaGreatDoor
open Go.RowKit Go.Maps
set_option linter.unusedVariables false
set_option linter.unusedSimpArgs false

def cmA : CommitD := ([], [], ⟨#[65, 110, 110]⟩, ⟨#[109]⟩, 5)
def oA : ObjD := (2, noChangeD, cmA)
def bA : List UInt8 := [75, 0, 0, 3, 65, 110, 110, 1, 109, 5]
def bB : List UInt8 := [67, 1, 0, 3, 65, 110, 110, 2, 3, 1, 97, 1, 0, 0, 0, 0, 2, 104, 105]
theorem rightA : rightB oA = true := by decide +kernel
theorem bytesA : objE oA = bA := by decide +kernel
theorem readB : ∃ o, decodeS bB = (o, 0) ∧ o.2.1.2.2.2.length = 2 ∧ (o.2.1.2.2.2.map fun x => x.2.2.2.1)[1]? = some ⟨#[104, 105]⟩ ∧ szL o.2.1.2.2.2 = 3 :=
  ⟨(decodeS bB).1, Prod.ext rfl (show (decodeS bB).2 = 0 by decide +kernel), by decide +kernel, by decide +kernel, by decide +kernel⟩
theorem readA : decodeS (bA ++ [0]) = ((0, noChangeD, noCommitD), 6) := by
  refine objDec_no (by decide) ?_
  have h : (readS (bA ++ [0])).isNone = true := by decide +kernel
  exact Option.isNone_iff_eq_none.1 h
theorem conv_bytes {w : World} {B c : Nat} {A : Option Addr} {l : List UInt8} (h : Sl w B A l.length 1 (idV l)) (hp : 0 < l.length) : (convert 22 9 (.slice A l.length c)).run Tryz.prog w = .ok (.string ⟨l.toArray⟩) w := by
  obtain ⟨b, off, rfl, _, hc⟩ := h.2 hp
  have hb : Lib.Bytes w b off ⟨l.toArray⟩ := bytes_at fun j hj => hc j _ (by unfold idV; rw [List.getElem?_map, List.getElem?_eq_getElem hj]; rfl)
  have hw := Lib.run_convert_window (P := Tryz.prog) w 22 5 9 Tryz.underlying22 Tryz.underlying5 Tryz.underlying9 b off ⟨l.toArray⟩ hb 0 l.length c (by rw [size_mk]; omega)
  rw [extract_mk, List.drop_zero, List.take_length, Nat.add_zero] at hw
  exact hw
theorem oA_in (w : World) (B : Nat) : ObjIn w B (.agg ([.int .u8 2, .int .i64 0, .slice none 0 0, .string noneS, .slice none 0 0, .slice none 0 0, .slice none 0 0, .string ⟨#[65, 110, 110]⟩, .string ⟨#[109]⟩, .int .i64 5] : List Value).toArray) oA := by
  refine ⟨⟨⟨(by decide : (Lit.int .i64 0).wf = true), ?_, ?_⟩, ?_, ?_, (by decide : (Lit.int .i64 5).wf = true)⟩, ?_, ?_, ?_, ?_, none, 0, none, 0, none, 0, none, 0, rfl, Sl.nil, Sl.nil, Sl.nil, Sl.nil⟩
  · intro x hx; cases hx
  · intro x hx; cases hx
  · intro x hx; cases hx
  · intro x hx; cases hx
  · intro x hx; cases hx
  · show (0 : Nat) ≤ maxLen
    unfold maxLen; omega
  · show (3 : Nat) ≤ maxLen
    unfold maxLen; omega
  · show (1 : Nat) ≤ maxLen
    unfold maxLen; omega
/-- The commit's bytes. -/
theorem encA (w : World) (hg : Glob w) : Calls Tryz.prog 11 #[.agg ([.int .u8 2, .int .i64 0, .slice none 0 0, .string noneS, .slice none 0 0, .slice none 0 0, .slice none 0 0, .string ⟨#[65, 110, 110]⟩, .string ⟨#[109]⟩, .int .i64 5] : List Value).toArray] w fun e w' => Below w.heap.size w w' ∧ ∃ A c, e = .returned (.tuple #[.slice A 10 c, .int .i64 0]) ∧ Sl w' w'.heap.size A 10 1 (idV bA) ∧ 10 ≤ c :=
  (objEncode_any oA _ w (oA_in w _) (by decide) (by decide) (by decide) (by decide) hg).mono fun e w' ⟨h1, h2⟩ => by
    unfold EncRes at h2
    rw [if_pos rightA, bytesA, if_neg (by decide)] at h2
    exact ⟨h1, h2⟩
theorem decB (w : World) (g : Nat) {o : ObjD} (ho : decodeS bB = (o, 0)) (hh : w.heap[g]? = some (.cells #[.int .u8 67, .int .u8 1, .int .u8 0, .int .u8 3, .int .u8 65, .int .u8 110, .int .u8 110, .int .u8 2, .int .u8 3, .int .u8 1, .int .u8 97, .int .u8 1, .int .u8 0, .int .u8 0, .int .u8 0, .int .u8 0, .int .u8 2, .int .u8 104, .int .u8 105] 5)) (hg : Glob w) : Calls Tryz.prog 5 #[.slice (some ⟨g, 0, none⟩) 19 19] w fun e w' => Below w.heap.size w w' ∧ ∃ v, e = .returned (.tuple #[v, .int .i64 0]) ∧ ObjIn w' w'.heap.size v o :=
  (objDecode_any bB (some ⟨g, 0, none⟩) 19 w ⟨by decide, fun _ => ⟨g, 0, rfl, (Array.getElem?_eq_some_iff.1 hh).1, fun j u hj => by
    rw [Nat.zero_add]
    exact (cells_at0 (cs := [.int .u8 67, .int .u8 1, .int .u8 0, .int .u8 3, .int .u8 65, .int .u8 110, .int .u8 110, .int .u8 2, .int .u8 3, .int .u8 1, .int .u8 97, .int .u8 1, .int .u8 0, .int .u8 0, .int .u8 0, .int .u8 0, .int .u8 2, .int .u8 104, .int .u8 105]) hh j).trans (by rw [← hj]; rfl)⟩⟩ (by decide) (by decide) hg).mono fun e w' ⟨h1, v, h2, h3⟩ => by
      rw [ho] at h2 h3
      exact ⟨h1, v, h2, h3⟩
set_option maxRecDepth 100000 in
theorem decA (w : World) (A : Option Addr) (c : Nat) (hs : Sl w w.heap.size A 11 1 (idV bA ++ [.int .u8 0])) (hc : 11 ≤ c) (hg : Glob w) : Calls Tryz.prog 5 #[.slice A 11 c] w fun e w' => Below w.heap.size w w' ∧ ∃ v, e = .returned (.tuple #[v, .int .i64 6]) ∧ ObjIn w' w'.heap.size v (0, noChangeD, noCommitD) := by
  have h11 : (bA ++ [0]).length = 11 := rfl
  have h := objDecode_any (bA ++ [0]) A c w (show Sl w w.heap.size A (bA ++ [0]).length 1 (idV (bA ++ [0])) from hs) (show (bA ++ [0]).length ≤ c from hc) (by decide) hg
  rw [h11] at h
  exact h.mono fun e w' ⟨h1, v, h2, h3⟩ => by
      rw [readA] at h2 h3
      exact ⟨h1, v, h2, h3⟩
set_option maxHeartbeats 4000000 in
set_option maxRecDepth 100000 in
theorem awake08_any (w : World) (hg : Glob w) : Calls Tryz.prog 9 #[] w fun e w' => Below w.heap.size w w' ∧ e = .returned (.bool true) := by
  have HG := Lib.hid hg
  obtain ⟨oB, ho, hB2, hB3, hB4⟩ := readB
  obtain ⟨k, ⟨n, ds, au, os⟩, ⟨ps, cs, a2, ms, st⟩⟩ := oB
  dsimp only at hB2 hB3 hB4
  have HL2 := Lib.hid hB2; have HL3 := Lib.hid hB3; have HL4 := Lib.hid hB4
  clear hB2 hB3 hB4
  have HENC := Lib.hid encA
  clear hg
  go_enter Tryz.func9, Tryz.ntmps9
  go_upto_region 2 with (first
    | (go_at_call 11; refine (HENC.out w HG.out).mono ?_; rintro e w1 ⟨hb1, A1, c1, rfl, hs1, hc1⟩))
  go_upto_region 3 with (first
    | (go_at_call 5; refine (decB (w1.alloc (.cells #[.int .u8 67, .int .u8 1, .int .u8 0, .int .u8 3, .int .u8 65, .int .u8 110, .int .u8 110, .int .u8 2, .int .u8 3, .int .u8 1, .int .u8 97, .int .u8 1, .int .u8 0, .int .u8 0, .int .u8 0, .int .u8 0, .int .u8 2, .int .u8 104, .int .u8 105] 5)) w1.heap.size ho (heap_alloc_new _ _) (HG.out.next (hb1.trans (((Below.refl _ _).alloc (Nat.le_refl _) _).mono hb1.size)))).mono ?_; rintro e w2 ⟨hb2, v, rfl, hin⟩
       go_loud (have HB2 := Lib.hid (hb1.trans ((((Below.refl w1.heap.size w1).alloc (Nat.le_refl _) (.cells #[.int .u8 67, .int .u8 1, .int .u8 0, .int .u8 3, .int .u8 65, .int .u8 110, .int .u8 110, .int .u8 2, .int .u8 3, .int .u8 1, .int .u8 97, .int .u8 1, .int .u8 0, .int .u8 0, .int .u8 0, .int .u8 0, .int .u8 2, .int .u8 104, .int .u8 105] 5)).trans (hb2.mono (by simp))).mono hb1.size)); obtain ⟨ok, hop, ha, ha2, hm, Ad, cd, Ao, co, Ap, cp, Ac, cc, rfl, sd, so, sp, sc⟩ := hin; try dsimp only at ok hop ha ha2 hm sd so sp sc; have HCH := Lib.hid (show ChIn w2 w2.heap.size (.agg ([.int .i64 n, .slice Ad ds.length cd, .string au, .slice Ao os.length co] : List Value).toArray) (n, ds, au, os) from ⟨ok.1, hop, ha, Ad, cd, Ao, co, rfl, sd, so⟩); have HSO := Lib.hid so; have HOP := Lib.hid hop; have HS1 := Lib.hid ((hs1.keep (((Below.refl w1.heap.size w1).alloc (Nat.le_refl _) (.cells #[.int .u8 67, .int .u8 1, .int .u8 0, .int .u8 3, .int .u8 65, .int .u8 110, .int .u8 110, .int .u8 2, .int .u8 3, .int .u8 1, .int .u8 97, .int .u8 1, .int .u8 0, .int .u8 0, .int .u8 0, .int .u8 0, .int .u8 2, .int .u8 104, .int .u8 105] 5)).trans (hb2.mono (by simp)))).more (show w1.heap.size ≤ w2.heap.size from Nat.le_trans (by simp) hb2.size))); clear hb2 ok hop ha ha2 hm sd so sp sc)
    | (with_reducible refine at_alloc ?_
       refine wp_allocM (by rfl) 30 rfl objZ (zeroObj_run _) ?_
       intro X1 hbx1 hzx1 hsx1
       have HBX1 := Lib.hid hbx1; have HZX1 := Lib.hid hzx1
       clear hbx1 hzx1 hsx1)
    | (with_reducible refine at_store ?_
       refine wp_storeM (by rfl) 30 _ _ rfl w2.heap.size 0 [] objZ [] [.int .u8 (k.toNat : Int), .int .i64 n, .slice Ad ds.length cd, .string au, .slice Ao os.length co, .slice Ap ps.length cp, .slice Ac cs.length cc, .string a2, .string ms, .int .i64 st] 30 (.agg ([.int .u8 (k.toNat : Int), .int .i64 n, .slice Ad ds.length cd, .string au, .slice Ao os.length co, .slice Ap ps.length cp, .slice Ac cs.length cc, .string a2, .string ms, .int .i64 st]).toArray) rfl rfl rfl rfl (by simpa using HZX1.out) rfl (by kernel_rfl) (by intro u hu; simp only [List.mem_cons, List.not_mem_nil, or_false] at hu; rcases hu with rfl | rfl | rfl | rfl | rfl | rfl | rfl | rfl | rfl | rfl <;> rfl) ?_
       intro Y1 hby1 hyy1 hsy1
       have HBY1 := Lib.hid (HBX1.out.trans (hby1.below HBX1.out.size (fun k hk e => by have e' : k = w2.heap.size := e; omega)))
       have HYY1 : Hid (Y1.heap[w2.heap.size]? = some (.cells ([.int .u8 (k.toNat : Int), .int .i64 n, .slice Ad ds.length cd, .string au, .slice Ao os.length co, .slice Ap ps.length cp, .slice Ac cs.length cc, .string a2, .string ms, .int .i64 st]).toArray 30 (0, 0))) := Lib.hid (by simpa using hyy1)
       clear hby1 hyy1 hsy1))
  have hb3 := HB2.out.trans (HBY1.out.mono HB2.out.size)
  have HB3 := Lib.hid hb3
  have HS3 := Lib.hid ((HS1.out.keep HBY1.out).more HBY1.out.size)
  have HG4 := Lib.hid (fun (u : World) (hu : Below Y1.heap.size Y1 u) => HG.out.next (HB3.out.trans (hu.mono HB3.out.size)))
  have HZL1 := Lib.hid (Array.getElem?_eq_some_iff.1 HYY1.out).1
  clear hb3
  go_upto_region 4 with (first
    | (at_builtin; refine wp_appO (by rfl) _ _ 22 rfl 5 (.int .u8 0) 1 1 Tryz.underlying22 info_u8 rfl (by decide) rfl A1 10 c1 (idV bA) rfl HS3.out (idV_one _) (by decide) (by unfold maxLen; omega) (by omega) ?_
       intro ga ca W3 hoa hca hga hla hba
       have HOA := Lib.hid hoa; have HBA := Lib.hid hba
       clear hoa hca hba)
    | (at_builtin; refine wp_app1 rfl _ _ 22 rfl Y1.heap.size 5 (.int .u8 0) 1 Tryz.underlying22 info_u8 rfl (.slice (some ⟨ga, 0, none⟩) 10 ca) 10 (idV bA) rfl HOA.out (.int .u8 0) 5 rfl rfl (by unfold maxLen; omega) (by omega) HBA.out.size ?_
       intro v9 W4 ho9 hgr9
       obtain ⟨A9, c9, rfl⟩ := own_form' ho9
       have HO9 := Lib.hid ho9
       have HB9 := Lib.hid (hgr9 _ _ (Nat.le_refl _) HBA.out)
       clear ho9 hgr9 HOA HBA)
    | (go_at_call 5; refine (decA W4 A9 c9 (Sl.of_own HO9.out) (own_cap HO9.out) (HG4.out W4 HB9.out)).mono ?_; rintro e w8 ⟨hb8, v8, rfl, hin8⟩
       have HB8 := Lib.hid (HB9.out.trans (hb8.mono HB9.out.size))
       obtain ⟨l8, rfl, hl8, h18⟩ := hin8.ten
       clear hb8 hin8)
    | (with_reducible refine at_alloc ?_
       refine wp_allocM (by rfl) 30 rfl objZ (zeroObj_run _) ?_
       intro X2 hbx2 hzx2 hsx2
       have HBX2 := Lib.hid hbx2; have HZX2 := Lib.hid hzx2
       clear hbx2 hzx2 hsx2)
    | (with_reducible refine at_store ?_
       refine wp_storeM (by rfl) 30 _ _ rfl w8.heap.size 0 [] objZ [] l8 30 (.agg (l8).toArray) rfl rfl rfl rfl (by simpa using HZX2.out) hl8.symm (by rw [hl8]; kernel_rfl) h18 ?_
       intro Y2 hby2 hyy2 hsy2
       have HBY2 := Lib.hid (HBX2.out.trans (hby2.below HBX2.out.size (fun k hk e => by have e' : k = w8.heap.size := e; omega)))
       have HYY2 : Hid (Y2.heap[w8.heap.size]? = some (.cells (l8).toArray 30 (0, 0))) := Lib.hid (by simpa using hyy2)
       clear hby2 hyy2 hsy2))
  have HBZ := Lib.hid (HB8.out.trans (HBY2.out.mono HB8.out.size))
  have HY2 := Lib.hid (HB3.out.trans (HBZ.out.mono HB3.out.size))
  have HBQ := Lib.hid (HBY1.out.trans (HBZ.out.mono HBY1.out.size))
  have hcv : (convert 22 9 (.slice A1 10 c1)).run Tryz.prog Y2 = .ok (.string ⟨#[75, 0, 0, 3, 65, 110, 110, 1, 109, 5]⟩) Y2 := conv_bytes (l := bA) (HS3.out.keep HBZ.out) (by decide)
  have hl2 := HL2.out; have hl4 := HL4.out
  obtain ⟨b, off, rfl, hbl, hcl⟩ := (HSO.out.keep HBQ.out).2 (by omega)
  have h1o : 1 < os.length := by omega
  have hrow := Sl.row (fun x hx => opV_length (HOP.out x hx)) hcl h1o
  have hx1 : os[1].2.2.2.1 = ⟨#[104, 105]⟩ := by
    have h := HL3.out
    rw [List.getElem?_map, List.getElem?_eq_getElem h1o] at h
    exact Option.some.inj h
  have e67 : Y2.cell? ⟨b, off + 70 + (3 + 64), none⟩ = some (.string ⟨#[104, 105]⟩) := by
    have h := hrow 67 _ (op_cells (HOP.out _ (List.getElem_mem h1o))).2.2.2.1
    rw [hx1] at h
    exact h
  have c4 : Y2.cell? ⟨w2.heap.size, 4, none⟩ = some (.slice (some ⟨b, off, none⟩) os.length co) := (HBZ.out.cell HZL1.out).trans (cells_at0 HYY1.out 4)
  have i1 : (1 : Int) < (os.length : Int) := by omega
  have e2 : ((os.length : Int) == 2) = true := by rw [hl2]; rfl
  have e3 : (((szL os : Nat) : Int) == 3) = true := by rw [hl4]; rfl
  have HSZO := Lib.hid (show os.length ≤ 1099511627776 by omega)
  clear hx1 hrow hcl hbl h1o hl2 HL3
  have HSZL := Lib.hid (show szL os ≤ 4611686018427387904 by omega)
  clear hl4
  go_wp2_with (first
    | (with_reducible refine at_load ?_
       refine wp_val (by rfl) (ex_load 26 _ rfl (p := ⟨w2.heap.size, 1, none⟩) rfl (run_loadVar_mid _ _ _ _ [.int .i64 n, .slice Ad ds.length cd, .string au, .slice (some ⟨b, off, none⟩) os.length co] _ (fun j u hj => (HBZ.out.cell (p := ⟨w2.heap.size, 1 + j, none⟩) HZL1.out).trans ((cells_at0 HYY1.out (1 + j)).trans (mid1 hj))) Tryz.underlying26 rfl (by kernel_rfl))) ?_)
    | (go_at_call 18; refine (size_any (n, ds, au, os) _ Y2 ((HCH.out.keep HBQ.out).more HBQ.out.size) HSZO.out HSZL.out).mono ?_; rintro e w10 ⟨hb10, rfl⟩
       have HB10 := Lib.hid hb10
       clear hb10))
  go_ret
  exact ⟨HY2.out.trans (HB10.out.mono HY2.out.size), rfl⟩
end Go.Proofs.YthjaepmfkgejkaaGreatDoor
