/-
  The program's Id of an object. Conditions: lists of at most 2^40; the tables hold what the program's text lays.
  The document's Sort of ids. Conditions: at most 2^30 ids.
-/
import Derived.Test.YthjaepmfkgejkaaGreatDoorMerged1
import Derived.Test.YthjaepmfkgejkaaGreatDoorMerged26
import Derived.Test.YthjaepmfkgejkaaGreatDoorShaRefSum
import Derived.Test.YthjaepmfkgejkaaGreatDoorMerged4
import Derived.Test.YthjaepmfkgejkaaGreatDoorOrdMerge
import Derived.Test.YthjaepmfkgejkaaGreatDoorMerged22
import Derived.Test.YthjaepmfkgejkaaGreatDoorMerged8
import Derived.Test.YthjaepmfkgejkaaGreatDoorMerged12
import Derived.Test.YthjaepmfkgejkaaGreatDoorObjIds1
set_option linter.unusedVariables false
set_option linter.unusedSimpArgs false
set_option maxHeartbeats 4000000
set_option maxRecDepth 100000
namespace Go.Proofs.YthjaepmfkgejkaaGreatDoor
open Lib (hid)
open Go.RowKit Go.Maps
theorem Qh (w : World) : (Instr.build 47 #[]).run Tryz.prog w = .ok (.agg (idV (List.replicate 32 0)).toArray) w := by kernel_rfl
theorem J2 (l : List UInt8) : (idV l).length = l.length := by simp [idV]
theorem Qi (o : zR) (v : Value) (w : World) (h : ObjIn w w.heap.size v o) (hl1 : o.2.1.2.1.length ≤ 1099511627776) (hl2 : o.2.1.2.2.2.length ≤ 1099511627776) (hl3 : o.2.2.1.length ≤ 1099511627776) (hl4 : o.2.2.2.1.length ≤ 1099511627776) (hg : Glob w) (hsg : ShaG w) :
    Calls Tryz.prog 14 #[v] w fun e w' => e = .returned (.tuple #[.agg (idV (idD o)).toArray, .int .i64 (Um o)]) ∧ Below w.heap.size w w' := by
  obtain ⟨c0, rfl, hl0, h10⟩ := h.ten
  have HIN := hid h; have HL0 := hid hl0; have H10 := hid h10; have HG := hid hg; have HSG := hid hsg
  clear h hl0 h10 hg hsg
  go_enter Tryz.func14, Tryz.ntmps14
  go_upto_region 1 with (first
    | (with_reducible refine kz ?_
       refine ko (by rfl) 30 _ rfl c0 (.agg (c0).toArray) rfl rfl (by rw [HL0.out]; kernel_rfl) ?_
       intro W0 hb0 hz0 hs0
       have HB0 := hid hb0; have HZ0 := hid hz0; have HS0 := hid hs0
       clear hb0 hz0 hs0)
    | (with_reducible refine kw ?_
       refine ku (by rfl) 47 rfl (List.replicate 32 (.int .u8 0)) (by kernel_rfl) ?_
       intro W1 hb1 hz1 hs1
       have HB1 := hid hb1; have HZ1 := hid hz1; have HS1 := hid hs1
       clear hb1 hz1 hs1))
  obtain ⟨zb, hzb⟩ : ∃ x, w.heap.size = x := ⟨_, rfl⟩
  obtain ⟨zr, hzr⟩ : ∃ x, W0.heap.size = x := ⟨_, rfl⟩
  have HBW := hid (HB0.out.trans (HB1.out.mono HB0.out.size))
  have HZR := hid (show w.heap.size < zr ∧ zr < W1.heap.size by have := HS0.out; have := HS1.out; omega)
  have HZB : Hid (W1.heap[zb]? = some (.cells c0.toArray 30 (0, 0))) := hid (by rw [← hzb]; exact (HB1.out.block _ (by have := HS0.out; omega)).trans HZ0.out)
  have HRR : Hid (W1.heap[zr]? = some (.cells (List.replicate 32 (.int .u8 0)).toArray 47 (0, 0))) := hid (by rw [← hzr]; exact HZ1.out)
  rw [hzb, hzr]
  try go_frame
  clear hzb hzr HZ0 HZ1 HB0 HB1 HS0 HS1
  by_cases hok : kD o = true ∧ ¬ 262144 < (zA o).length
  ·
   have HR := hid hok.1; have HLE := hid hok.2
   have HER := hid (show Um o = 0 by unfold Um; rw [if_pos hok.1, if_neg hok.2])
   have hlen : (zA o).length ≤ 1099511627776 := by have := hok.2; omega
   clear hok
   go_upto_region 4 with (first
     | (with_reducible refine k7 ?_
        refine k6 (by rfl) (k9 30 _ rfl (p := ⟨zb, 0, none⟩) rfl (jP HZB.out HL0.out)) ?_)
     | (go_at_call 11; refine (KB o _ W1 ((HIN.out.keep HBW.out).more HBW.out.size) hl1 hl2 hl3 hl4 (HG.out.next HBW.out)).mono ?_; rintro e W2 ⟨hb2, hr⟩
        unfold Ka at hr
        rw [if_pos HR.out, if_neg HLE.out] at hr
        obtain ⟨A2, c2, rfl, hsl, hcc⟩ := hr
        have HSL := hid hsl; have HCC := hid hcc
        clear hsl hcc
        have HB2 := hid (HBW.out.trans (hb2.mono HBW.out.size))
        have HR2 := hid ((hb2.block zr HZR.out.2).trans HRR.out)
        clear hb2))
   have HBA := hid (show Below W2.heap.size W2 (W2.alloc (.cells #[.slice A2 (zA o).length c2] 22)) from (qB _ _).alloc (qR _) _)
   go_wp2_with (first
     | (go_at_call 34; refine (shaSum_any (zA o) A2 c2 W2.heap.size 0 1 (W2.alloc (.cells #[.slice A2 (zA o).length c2] 22)) HCC.out hlen (by simp) (k5 (heap_alloc_new W2 _) 0) ((HSL.out.keep HBA.out).more HBA.out.size) ((HSG.out.next HB2.out).next HBA.out)).mono ?_
        rintro e W5 ⟨rfl, hb5⟩
        have HR5 := hid ((hb5.block zr (qL (qX HR2.out) HBA.out.size)).trans ((HBA.out.block zr (qX HR2.out)).trans HR2.out))
        have HB5 := hid (HB2.out.trans ((HBA.out.trans (hb5.mono HBA.out.size)).mono HB2.out.size))
        clear hb5)
     | (with_reducible refine ks ?_
        refine km (by rfl) 47 _ _ rfl zr 0 [] (List.replicate 32 (.int .u8 0)) [] (idV (ZN (zA o))) 47 (.agg (idV (ZN (zA o))).toArray) rfl rfl rfl rfl (by simpa using HR5.out) (by rw [J2, Z8]; rfl) (by rw [J2, Z8]; kernel_rfl) (ky _) ?_
        intro V6 hb6 hy6 hs6
        have HB6 := hid hb6
        have HY6 : Hid (V6.heap[zr]? = some (.cells (idV (ZN (zA o))).toArray 47 (0, 0))) := hid (by simpa using hy6)
        clear hb6 hy6 hs6))
   have HIL := hid (show (idV (ZN (zA o))).length = 32 by rw [J2, Z8])
   refine bodyPost_ret (ZK Tryz.results14 _ _ rfl rfl (qV _ zr 0 47 (idV (ZN (zA o))) _ (fun j u hj => by rw [qZ]; exact (k5 HY6.out j).trans hj) Tryz.underlying47 rfl (by first | kernel_rfl | (rw [HIL.out]; kernel_rfl)))) rfl ?_
   exact ⟨by unfold idD; rw [if_pos HER.out, HER.out]; rfl, HB5.out.trans (HB6.out.below HB5.out.size fun kk hk e => by have := HZR.out; omega)⟩
  ·
   obtain ⟨er, her⟩ : ∃ er : Int, Um o = er := ⟨_, rfl⟩
   have hno : er ≠ 0 := by
     rw [← her]
     unfold Um
     split
     · split
       · decide
       · exact absurd ⟨‹_›, ‹_›⟩ hok
     · decide
   have HER := hid her
   have e1 : (er != 0) = true := by rw [bne_iff_ne]; exact hno
   have HNO : Hid (∀ (e : Ending) (w' : World), Ka o e w' → e = .returned (.tuple #[.slice none 0 0, .int .i64 er])) := hid (fun e w' h => by
     unfold Ka at h
     rw [← her]
     unfold Um
     split at h
     ·
      rename_i hr
      rw [if_pos hr]
      split at h
      · rename_i h2; rw [if_pos h2]; exact h
      · rename_i h2; exact absurd ⟨hr, h2⟩ hok
     · rename_i hr
       rw [if_neg hr]; exact h)
   have HNE := hid hno
   clear hok her hno
   go_wp2_with (first
     | (with_reducible refine k7 ?_
        refine k6 (by rfl) (k9 30 _ rfl (p := ⟨zb, 0, none⟩) rfl (jP HZB.out HL0.out)) ?_)
     | (go_at_call 11; refine (KB o _ W1 ((HIN.out.keep HBW.out).more HBW.out.size) hl1 hl2 hl3 hl4 (HG.out.next HBW.out)).mono ?_; rintro e W2 ⟨hb2, hr⟩
        obtain rfl := HNO.out _ _ hr
        clear hr
        have HB2 := hid (HBW.out.trans (hb2.mono HBW.out.size))
        have HR2 := hid ((hb2.block zr HZR.out.2).trans HRR.out)
        clear hb2)
     | (with_reducible refine kQ ?_
        refine k6 (by rfl) (kB 47 #[] rfl (Qh _)) ?_)
     | (with_reducible refine ks ?_
        refine km (by rfl) 47 _ _ rfl zr 0 [] (List.replicate 32 (.int .u8 0)) [] (idV (List.replicate 32 0)) 47 (.agg (idV (List.replicate 32 0)).toArray) rfl rfl rfl rfl (by simpa using HR2.out) (by rw [J2, List.length_replicate]; rfl) (by rw [J2, List.length_replicate]; kernel_rfl) (ky _) ?_
        intro V6 hb6 hy6 hs6
        have HB6 := hid hb6
        have HY6 : Hid (V6.heap[zr]? = some (.cells (idV (List.replicate 32 0)).toArray 47 (0, 0))) := hid (by simpa using hy6)
        clear hb6 hy6 hs6))
   refine bodyPost_ret (ZK Tryz.results14 _ _ rfl rfl (qV _ zr 0 47 (idV (List.replicate 32 0)) _ (fun j u hj => by rw [qZ]; exact (k5 HY6.out j).trans hj) Tryz.underlying47 rfl (by first | kernel_rfl | (rw [HIL.out]; kernel_rfl)))) rfl ?_
   exact ⟨by unfold idD; rw [HER.out, if_neg HNE.out]; rfl, HB2.out.trans (HB6.out.below HB2.out.size fun kk hk e => by have := HZR.out; omega)⟩
end Go.Proofs.YthjaepmfkgejkaaGreatDoor
namespace Go.Proofs.YthjaepmfkgejkaaGreatDoor
open Lib (hid)
open Go.RowKit Go.Maps
theorem Ku (x : List UInt8) (b : List (List UInt8)) : kr (x :: b) = idV x ++ kr b := by simp [kr]
theorem Qj {o : List (List UInt8)} {k : Nat} (h : 0 < k) (hk : k ≤ o.length) : o.take k = o.take (k - 1) ++ [o[k - 1]'(by omega)] ∧ o.drop (k - 1) = o[k - 1]'(by omega) :: o.drop k := by
  obtain ⟨m, rfl⟩ : ∃ m, k = m + 1 := ⟨k - 1, by omega⟩
  refine ⟨?_, ?_⟩
  · rw [List.take_succ_eq_append_getElem (by omega)]; rfl
  · have h2 := List.drop_eq_getElem_cons (l := o) (i := m) (by omega)
    exact h2
theorem JY {o : List (List UInt8)} (h : IdsOk o) : (kr o).length = o.length * 32 := by
  induction o with
  | nil => rfl
  | cons x t ih =>
    rw [Ku, List.length_append, ih (fun y hy => h y (List.mem_cons_of_mem _ hy)), List.length_cons]
    have hx : x.length = 32 := h x (List.mem_cons_self ..)
    have e : (idV x).length = 32 := by simp [idV, hx]
    omega
theorem Qk {o : List (List UInt8)} {x : List UInt8} {k : Nat} (hs : zZ o) (hk : k ≤ o.length) (hlo : ∀ h : 0 < k, kX (o[k - 1]'(by omega)) x ≤ 0) (hhi : ∀ y ∈ o.drop k, 0 < kX y x) : zZ (o.take k ++ x :: o.drop k) := by
  have hs2 : zZ (o.take k ++ o.drop k) := by rw [List.take_append_drop]; exact hs
  have h3 := List.pairwise_append.1 hs2
  refine List.pairwise_append.2 ⟨h3.1, List.pairwise_cons.2 ⟨fun y hy => ?_, h3.2.1⟩, fun a ha b hb => ?_⟩
  · have := hhi y hy
    have h4 := Ze y x
    omega
  ·
   have hax : kX a x ≤ 0 := by
     have hk0 : 0 < k := by
       rcases Nat.eq_zero_or_pos k with h0 | h0
       · subst h0; simp at ha
       · exact h0
     obtain ⟨e1, e2⟩ := Qj hk0 hk
     rw [e1] at ha
     rcases List.mem_append.1 ha with ha | ha
     ·
      have h5 : kX a (o[k - 1]'(by omega)) ≤ 0 := by
        have h6 := List.pairwise_append.1 (show (o.take (k - 1) ++ o.drop (k - 1)).Pairwise _ by rw [List.take_append_drop]; exact hs)
        exact h6.2.2 a ha _ (by rw [e2]; exact List.mem_cons_self ..)
      exact qb h5 (hlo hk0)
     · rw [List.mem_singleton.1 ha]; exact hlo hk0
   rcases List.mem_cons.1 hb with rfl | hb
   · exact hax
   · exact h3.2.2 a ha b hb
theorem own_row {w : World} {base n c : Nat} {A : Option Addr} {o : List (List UInt8)} (h : w.ownsRow base 47 32 (.slice A n c) n (kr o)) (hn : 0 < n) (ho : IdsOk o) : ∃ g tl, A = some ⟨g, 0, none⟩ ∧ base ≤ g ∧ n ≤ c ∧ c ≤ maxLen ∧ w.heap[g]? = some (.cells (kr o ++ tl).toArray 47 (0, 0)) ∧ (kr o ++ tl).length = c * 32 := by
  rcases h.2 with ⟨hv, h0⟩ | ⟨g, cap, cur, hv, hb, hh, hc, hm, hs, ht⟩
  · omega
  ·
   injection hv with e1 e2 e3
   subst e3
   refine ⟨g, cur.toList.drop (n * 32), e1, hb, hc, hm, ?_, ?_⟩
   · rw [← ht, List.take_append_drop]; exact hh
   · rw [← ht, List.take_append_drop]; simpa using hs
theorem row_own {w : World} {base n c g : Nat} {o : List (List UInt8)} {tl : List Value} (hb : base ≤ g) (hc : n ≤ c) (hm : c ≤ maxLen) (hh : w.heap[g]? = some (.cells (kr o ++ tl).toArray 47 (0, 0))) (hl : (kr o ++ tl).length = c * 32) (hn : o.length = n) (ho : IdsOk o) : w.ownsRow base 47 32 (.slice (some ⟨g, 0, none⟩) n c) n (kr o) := by
  have hlen : (kr o).length = n * 32 := by rw [JY ho, hn]
  exact ⟨hlen, .inr ⟨g, c, _, rfl, hb, hh, hc, hm, by simpa using hl, by rw [List.take_left' hlen]⟩⟩
def SortGives (l : List (List UInt8)) (w : World) (e : Ending) (w' : World) : Prop := Below w.heap.size w w' ∧ ∃ (l' : List (List UInt8)) (A : Option Addr) (c : Nat), e = .returned (.slice A l'.length c) ∧ w'.ownsRow w.heap.size 47 32 (.slice A l'.length c) l'.length (kr l') ∧ zZ l' ∧ l'.Perm l
structure HoleAt (w : World) (g k : Nat) (o : List (List UInt8)) (h : List UInt8) (tl : List Value) (wx : World) : Prop where
  but : But (fun j => j = g) w wx
  row : wx.heap[g]? = some (.cells (kr (o.take k) ++ (idV h ++ (kr (o.drop k) ++ tl))).toArray 47 (0, 0))
theorem HoleAt.keep {w wx wy : World} {g k : Nat} {o : List (List UInt8)} {h : List UInt8} {tl : List Value} (H : HoleAt w g k o h tl wx) (hb : Below wx.heap.size wx wy) : HoleAt w g k o h tl wy :=
  ⟨H.but.andBelow hb, (hb.block g (qX H.row)).trans H.row⟩
theorem HoleAt.pred {w wx : World} {g k : Nat} {o : List (List UInt8)} {h y : List UInt8} {tl : List Value} (H : HoleAt w g k o h tl wx) (hp : o.take k = o.take (k - 1) ++ [y]) (hk0 : 0 < k) (hk : k ≤ o.length) (ho : IdsOk o) : wx.rangeAt g ((k - 1) * 32) (idV y) := by
  intro j v hj
  have hl : (kr (o.take (k - 1))).length = (k - 1) * 32 := by rw [JY (fun y hy => ho y (List.mem_of_mem_take hy)), List.length_take, Nat.min_eq_left (by omega)]
  rw [k5 H.row, hp, zO, Ku, show kr [] = [] from rfl, List.append_nil, List.append_assoc, List.getElem?_append_right (by omega), hl, show (k - 1) * 32 + j - (k - 1) * 32 = j by omega, List.getElem?_append_left (List.getElem?_eq_some_iff.1 hj).1]
  exact hj
theorem QK (l : List (List UInt8)) (A : Option Addr) (c : Nat) (w : World) (hl : l.length ≤ 1073741824) (ho : IdsOk l) (hs : Sl w w.heap.size A l.length 32 (kr l)) :
    Calls Tryz.prog 86 #[.slice A l.length c] w (SortGives l w) := by
  have HOK := hid ho; have HS := hid hs
  clear ho hs
  go_enter Tryz.func86, Tryz.ntmps86
  go_upto_region 3 with fail
  go_loopw [4, 3] (fun t4 t3 wr => ∃ (i : Nat) (o : List (List UInt8)) (Ao : Option Addr) (co : Nat), i ≤ l.length ∧ t4 = .int .i64 (i : Int) ∧ t3 = .slice Ao o.length co ∧ Hid (wr.ownsRow w.heap.size 47 32 (.slice Ao o.length co) o.length (kr o)) ∧ Hid (Below w.heap.size w wr) ∧ Hid (zZ o ∧ o.Perm (l.take i) ∧ o.length = i)) (fun t4 _ _ => l.length - (intOf t4).toNat)
  case atStart => exact ⟨0, [], none, 0, Nat.zero_le _, rfl, rfl, hid (World.ownsRow_nil _ _ _ _), hid (qB _ _), hid ⟨List.Pairwise.nil, by simp, rfl⟩⟩
  case round =>
    obtain ⟨i, o, Ao, co, hi, rfl, rfl, HOW, HB, HSP⟩ := hrel
    by_cases hlt : i < l.length
    ·
     have i1 : (i : Int) < (l.length : Int) := by omega
     have hol : o.length = i := HSP.out.2.2
     have hol2 : o.length ≤ 1073741824 := by omega
     obtain ⟨x, hx⟩ : ∃ x, l[i] = x := ⟨_, rfl⟩
     have HXO := hid (show Ke x from hx ▸ HOK.out _ (List.getElem_mem _))
     have HOO := hid (show IdsOk o from fun y hy => HOK.out y (List.mem_of_mem_take (HSP.out.2.1.mem_iff.1 hy)))
     obtain ⟨b, off, rfl, hbl, hcl⟩ := HS.out.2 (by omega)
     have HLX := hid (fun (u : World) (hu : Below w.heap.size w u) => (show u.rangeAt b (off + i * 32) (idV x) from fun j v hj => (hu.cell (p := ⟨b, off + i * 32 + j, none⟩) hbl).trans (Sl.id (B := 0) HOK.out hcl hlt j v (by rw [hx]; exact hj))))
     have HXE := hid hx
     have HOL := hid hol
     have HBL := hid hbl
     clear hcl hx hol
     go_upto_region 7 with (first
       | (with_reducible refine k7 ?_
          refine k6 (by rfl) (k9 47 _ rfl (p := ⟨b, off + i * 32, none⟩) rfl (qV _ _ _ _ (idV x) _ (HLX.out _ HB.out) Tryz.underlying47 rfl (by rw [k8, HXO.out]; exact kt))) ?_)
       | (refine za (by rfl) 23 _ rfl 47 Tryz.underlying23 (.agg (idV zero32).toArray) 32 32 zg rfl (by decide) (by decide) (idV x) (by rw [k8, HXO.out]) rfl ?_)
       | (at_builtin; refine ua rfl _ _ 23 rfl w.heap.size 47 (.agg (idV zero32).toArray) 32 32 Tryz.underlying23 zg rfl (by decide) (.slice Ao o.length co) o.length (kr o) rfl HOW.out (idV x) 47 (by rw [k8, HXO.out]) rfl (ky _) (by unfold maxLen; omega) (by omega) HB.out.size ?_
          intro v9 w9 ho9 hg9
          obtain ⟨A9, c9, rfl⟩ := kg ho9
          have HO9 := hid ho9
          have HB9 := hid (hg9 w.heap.size w (qR _) HB.out)
          clear ho9 hg9))
     obtain ⟨g, tl, rfl, hg1, hg2, hg3, hrow, hlen⟩ := own_row (o := o ++ [x]) (by rw [zO, Ku]; have h := HO9.out; rw [show kr [] = [] from rfl, List.append_nil]; exact h) (by omega) (fun y hy => by rcases List.mem_append.1 hy with hy | hy; exact HOO.out y hy; rw [List.mem_singleton.1 hy]; exact HXO.out)
     have HG := hid (show w.heap.size ≤ g ∧ o.length + 1 ≤ c9 ∧ c9 ≤ maxLen from ⟨hg1, hg2, hg3⟩)
     have HLEN := hid hlen
     have HH : Hid (HoleAt w9 g o.length o x tl w9) := hid ⟨But.refl _ _, by rw [List.take_length, List.drop_length]; rw [zO, Ku, show kr [] = [] from rfl, List.append_nil, List.append_assoc] at hrow; exact hrow⟩
     have hcw : c9 ≤ 9223372036854775807 := by have := hg3; unfold maxLen at this; omega
     clear hg1 hg2 hg3 hrow hlen
     go_loopw [5] (fun t5 wr => ∃ (k : Nat) (h : List UInt8), k ≤ o.length ∧ t5 = .int .i64 (k : Int) ∧ Hid (Ke h) ∧ Hid (HoleAt w9 g k o h tl wr) ∧ Hid (∀ y ∈ o.drop k, 0 < kX y x)) (fun t5 _ => (intOf t5).toNat)
     case atStart => exact ⟨o.length, x, qR _, rfl, HXO, HH, hid (fun y hy => by rw [List.drop_length] at hy; cases hy)⟩
     case round =>
       clear HH
       obtain ⟨k, h, hk, rfl, HHO, HH, HHI⟩ := hrel
       have HBR := hid (HB9.out.trans (HH.out.but.below HB9.out.size fun kk hkk e => by have := HG.out.1; omega))
       have HPL := hid (show k * 32 = (kr (o.take k)).length by rw [JY (fun y hy => HOO.out y (List.mem_of_mem_take hy)), List.length_take]; rw [Nat.min_eq_left hk])
       by_cases hk0 : 0 < k
       ·
        have i2 : (0 : Int) < (k : Int) := by omega
        have d1 : decide ((0 : Int) < (k : Int)) = true := dT i2
        have d2 : decide (0 < k) = true := dT hk0
        obtain ⟨y, hy⟩ : ∃ y, o[k - 1]'(by omega) = y := ⟨_, rfl⟩
        have HYO := hid (show Ke y from hy ▸ HOO.out _ (List.getElem_mem _))
        obtain ⟨hp1, hp2⟩ := Qj hk0 hk
        rw [hy] at hp1 hp2
        have HP1 := hid hp1; have HP2 := hid hp2; have HYE := hid hy
        have HLY := hid (show wr.rangeAt g ((k - 1) * 32) (idV y) from HH.out.pred HP1.out hk0 hk (fun y hy => HOO.out y hy))
        have e1 : IntKind.i64.wrap ((k : Int) - 1) = ((k - 1 : Nat) : Int) := by rw [IntWalk.i64_in _ (by omega)]; omega
        have hgl := (qX HH.out.row)
        have FY := hid (Wg.row (w := wr) (b := g) (o := (k - 1) * 32) (cs := idV y) HLY.out hgl)
        have FX := hid (Wg.row (w := wr) (b := b) (o := off + i * 32) (cs := idV x) (HLX.out wr HBR.out) (qL HBL.out HBR.out.size))
        clear hp1 hp2 hy hgl
        go_upto_region 7 with fail
        refine kL (by kernel_rfl) (by kernel_rfl) ?_
        repeat (first
          | go_big_quiet_skip
          | (go_big_quiet_want
             first
               | (refine kG (fun w' hw' => k9 47 _ rfl (p := ⟨g, (k - 1) * 32, none⟩) rfl (qV w' _ _ _ (idV y) _ (FY.out w' hw') Tryz.underlying47 rfl (by rw [k8, HYO.out]; exact kt))) ?_
                  go_big_quiet_on
                  go_frame; try simp only [nTF])
               | (refine kG (fun w' hw' => k9 47 _ rfl (p := ⟨b, off + i * 32, none⟩) rfl (qV w' _ _ _ (idV x) _ (FX.out w' hw') Tryz.underlying47 rfl (by rw [k8, HXO.out]; exact kt))) ?_
                  go_big_quiet_on
                  go_frame; try simp only [nTF])
               | (go_big_quiet_op
                  first
                    | go_big_quiet_on
                    | go_big_quiet_call (first | (go_at_call 117; exact Wg.call (fun w' => Zc y x w' HYO.out HXO.out) _)))))
        refine wpQuiet_nil ?_
        rintro w' ⟨kk, rfl⟩
        have hk8 := kk.2
        generalize kk.val = w8 at *
        clear kk
        clear FY FX e1 d1 d2
        have HH8 := hid (HH.out.keep hk8.below)
        have HB8 := hid (HBR.out.trans (hk8.below.mono HBR.out.size))
        have HLY := hid (HH8.out.pred HP1.out hk0 hk (fun y hy => HOO.out y hy))
        clear hk8
        by_cases hq : 0 < kX y x
        ·
         have dq : decide (0 < kX y x) = true := dT hq
         have e1 : IntKind.i64.wrap ((k : Int) - 1) = ((k - 1 : Nat) : Int) := by rw [IntWalk.i64_in _ (by omega)]; omega
         go_wp2_with (first
           | (with_reducible refine k7 ?_
              refine k6 (by rfl) (k9 47 _ rfl (p := ⟨g, (k - 1) * 32, none⟩) rfl (qV _ _ _ _ (idV y) _ HLY.out Tryz.underlying47 rfl (by rw [k8, HYO.out]; exact kt))) ?_)
           | (with_reducible refine ks ?_
              refine km (by rfl) 47 _ _ rfl g (k * 32) (kr (o.take k)) (idV h) (kr (o.drop k) ++ tl) (idV y) 47 (.agg (idV y).toArray) rfl HPL.out rfl rfl HH8.out.row (by rw [k8, k8, HHO.out, HYO.out]) (by rw [k8, HYO.out]; exact kt) (ky _) ?_
              intro V1 hbV1 hyV1 hsV1
              have HBV1 := hid hbV1; have HYV1 := hid hyV1
              clear hbV1 hyV1 hsV1))
         go_roundw
         case rel =>
           refine ⟨k - 1, y, by omega, by first | rfl | go_num, HYO, hid ⟨HH8.out.but.trans HBV1.out fun _ _ q => q, ?_⟩, hid ?_⟩
           ·
            have h9 := HYV1.out
            rw [HP1.out, zO, Ku, show kr [] = [] from rfl, List.append_nil, List.append_assoc] at h9
            rw [HP2.out, Ku, List.append_assoc (idV y) (kr (o.drop k)) tl]
            exact h9
           ·
            rw [HP2.out]
            intro z hz
            rcases List.mem_cons.1 hz with rfl | hz
            · exact hq
            · exact HHI.out z hz
         case measure => (simp [intOf]) <;> omega
        ·
         have dq : decide (0 < kX y x) = false := dF hq
         have HLO := hid (show ∀ h : 0 < k, kX (o[k - 1]'(by omega)) x ≤ 0 from fun _ => by rw [HYE.out]; omega)
         go_wp2_with (first
           | (with_reducible refine k7 ?_
              refine k6 (by rfl) (k9 47 _ rfl (p := ⟨b, off + i * 32, none⟩) rfl (qV _ _ _ _ (idV x) _ (HLX.out _ HB8.out) Tryz.underlying47 rfl (by rw [k8, HXO.out]; exact kt))) ?_)
           | (with_reducible refine ks ?_
              refine km (by rfl) 47 _ _ rfl g (k * 32) (kr (o.take k)) (idV h) (kr (o.drop k) ++ tl) (idV x) 47 (.agg (idV x).toArray) rfl HPL.out rfl rfl HH8.out.row (by rw [k8, k8, HHO.out, HXO.out]) (by rw [k8, HXO.out]; exact kt) (ky _) ?_
              intro V2 hbV2 hyV2 hsV2
              have HBV2 := hid hbV2; have HYV2 := hid hyV2
              clear hbV2 hyV2 hsV2))
         have HNW : Hid (V2.heap[g]? = some (.cells (kr (o.take k ++ x :: o.drop k) ++ tl).toArray 47 (0, 0))) := hid (by rw [zO, Ku, List.append_assoc, List.append_assoc]; exact HYV2.out)
         have HIN2 := hid (show (o.take k ++ x :: o.drop k).Perm (x :: o) from (List.perm_middle).trans (by rw [List.take_append_drop]))
         have HLN2 := hid (show (o.take k ++ x :: o.drop k).length = o.length + 1 by rw [HIN2.out.length_eq]; rfl)
         have HOK2 := hid (show IdsOk (o.take k ++ x :: o.drop k) from fun y hy => by
           rcases List.mem_cons.1 (HIN2.out.mem_iff.1 hy) with rfl | hy
           · exact HXO.out
           · exact HOO.out y hy)
         have HOW2 := hid (row_own (base := w.heap.size) (n := o.length + 1) HG.out.1 HG.out.2.1 HG.out.2.2 HNW.out (by rw [← HLEN.out, List.length_append, List.length_append, JY HOK2.out, HLN2.out, JY (fun y hy => by rcases List.mem_append.1 hy with hy | hy; exact HOO.out y hy; rw [List.mem_singleton.1 hy]; exact HXO.out), List.length_append]; rfl) HLN2.out HOK2.out)
         have HSO2 := hid (Qk HSP.out.1 hk HLO.out HHI.out)
         have HBX := hid (HB8.out.trans (HBV2.out.below HB8.out.size fun kk hkk e => by have := HG.out.1; omega))
         go_roundw
         case rel =>
           refine ⟨i + 1, o.take k ++ x :: o.drop k, some ⟨g, 0, none⟩, c9, by omega, by go_num, by rw [HLN2.out], hid (by rw [HLN2.out]; exact HOW2.out), HBX, hid ⟨HSO2.out, ?_, by rw [HLN2.out, HOL.out]⟩⟩
           rw [List.take_succ_eq_append_getElem hlt, HXE.out]
           exact HIN2.out.trans ((List.Perm.cons x HSP.out.2.1).trans (List.perm_append_singleton x _).symm)
         case measure => (simp [intOf]) <;> omega
       ·
        obtain rfl : k = 0 := by omega
        have d1 : decide ((0 : Int) < ((0 : Nat) : Int)) = false := rfl
        have HLO := hid (show ∀ h : 0 < 0, kX (o[0 - 1]'(by omega)) x ≤ 0 from fun h => absurd h (by decide))
        go_upto_region 7 with fail
        refine kL (by kernel_rfl) (by kernel_rfl) ?_
        repeat (first
          | go_big_quiet_skip
          | (go_big_quiet_want
             first
               | (refine kG (fun w' hw' => k9 47 _ rfl (p := ⟨g, (k - 1) * 32, none⟩) rfl (qV w' _ _ _ (idV y) _ (FY.out w' hw') Tryz.underlying47 rfl (by rw [k8, HYO.out]; exact kt))) ?_
                  go_big_quiet_on
                  go_frame; try simp only [nTF])
               | (refine kG (fun w' hw' => k9 47 _ rfl (p := ⟨b, off + i * 32, none⟩) rfl (qV w' _ _ _ (idV x) _ (FX.out w' hw') Tryz.underlying47 rfl (by rw [k8, HXO.out]; exact kt))) ?_
                  go_big_quiet_on
                  go_frame; try simp only [nTF])
               | (go_big_quiet_op
                  first
                    | go_big_quiet_on
                    | go_big_quiet_call (first | (go_at_call 117; exact Wg.call (fun w' => Zc y x w' HYO.out HXO.out) _)))))
        refine wpQuiet_nil ?_
        rintro w' ⟨kk, rfl⟩
        have hk8 := kk.2
        generalize kk.val = w8 at *
        clear kk
        have HH8 := hid (HH.out.keep hk8.below)
        have HB8 := hid (HBR.out.trans (hk8.below.mono HBR.out.size))
        clear hk8
        go_wp2_with (first
          | (with_reducible refine k7 ?_
             refine k6 (by rfl) (k9 47 _ rfl (p := ⟨b, off + i * 32, none⟩) rfl (qV _ _ _ _ (idV x) _ (HLX.out _ HB8.out) Tryz.underlying47 rfl (by rw [k8, HXO.out]; exact kt))) ?_)
          | (with_reducible refine ks ?_
             refine km (by rfl) 47 _ _ rfl g 0 (kr (o.take 0)) (idV h) (kr (o.drop 0) ++ tl) (idV x) 47 (.agg (idV x).toArray) rfl HPL.out rfl rfl HH8.out.row (by rw [k8, k8, HHO.out, HXO.out]) (by rw [k8, HXO.out]; exact kt) (ky _) ?_
             intro V2 hbV2 hyV2 hsV2
             have HBV2 := hid hbV2; have HYV2 := hid hyV2
             clear hbV2 hyV2 hsV2))
        have HNW : Hid (V2.heap[g]? = some (.cells (kr (o.take 0 ++ x :: o.drop 0) ++ tl).toArray 47 (0, 0))) := hid (by rw [zO, Ku, List.append_assoc, List.append_assoc]; exact HYV2.out)
        have HIN2 := hid (show (o.take 0 ++ x :: o.drop 0).Perm (x :: o) from (List.perm_middle).trans (by rw [List.take_append_drop]))
        have HLN2 := hid (show (o.take 0 ++ x :: o.drop 0).length = o.length + 1 by rw [HIN2.out.length_eq]; rfl)
        have HOK2 := hid (show IdsOk (o.take 0 ++ x :: o.drop 0) from fun y hy => by
          rcases List.mem_cons.1 (HIN2.out.mem_iff.1 hy) with rfl | hy
          · exact HXO.out
          · exact HOO.out y hy)
        have HOW2 := hid (row_own (base := w.heap.size) (n := o.length + 1) HG.out.1 HG.out.2.1 HG.out.2.2 HNW.out (by rw [← HLEN.out, List.length_append, List.length_append, JY HOK2.out, HLN2.out, JY (fun y hy => by rcases List.mem_append.1 hy with hy | hy; exact HOO.out y hy; rw [List.mem_singleton.1 hy]; exact HXO.out), List.length_append]; rfl) HLN2.out HOK2.out)
        have HSO2 := hid (Qk HSP.out.1 hk HLO.out HHI.out)
        have HBX := hid (HB8.out.trans (HBV2.out.below HB8.out.size fun kk hkk e => by have := HG.out.1; omega))
        go_roundw
        case rel =>
          refine ⟨i + 1, o.take 0 ++ x :: o.drop 0, some ⟨g, 0, none⟩, c9, by omega, by go_num, by rw [HLN2.out], hid (by rw [HLN2.out]; exact HOW2.out), HBX, hid ⟨HSO2.out, ?_, by rw [HLN2.out, HOL.out]⟩⟩
          rw [List.take_succ_eq_append_getElem hlt, HXE.out]
          exact HIN2.out.trans ((List.Perm.cons x HSP.out.2.1).trans (List.perm_append_singleton x _).symm)
        case measure => (simp [intOf]) <;> omega
    ·
     have i1 : ¬ (i : Int) < (l.length : Int) := by omega
     obtain rfl : i = l.length := by omega
     go_wp2_with fail
     go_ret
     have hp := HSP.out.2.1
     rw [List.take_length] at hp
     exact ⟨HB.out, o, Ao, co, rfl, HOW.out, HSP.out.1, hp⟩
end Go.Proofs.YthjaepmfkgejkaaGreatDoor
