/-
  An insert's runes are made one by one: the checker's memory, the iterator, the operation's box. Conditions: as each says.
-/
import Derived.Test.YtdgbjhfkmembdaaGreatDoorShort0
import Derived.Test.YtdgbjhfkmembdaaGreatDoorCkMem
import Derived.Test.YtdgbjhfkmembdaaGreatDoorMem2
namespace Go.Proofs.YtdgbjhfkmembdaaGreatDoor
open Go.RowKit Go.Maps
set_option linter.unusedVariables false
set_option linter.unusedSimpArgs false

/-- What stands while an insert's runes are made. -/
structure InsJ (g : Nat) (deps : List (List UInt8)) (mk : List MadeD) (d : RefD) (t : ByteArray) (zx zi : Nat) (pos i : Nat) (w : World) : Prop where
  ck : CkAt w g deps (mk ++ List.replicate i (false, d))
  it : w.heap[zi]? = some (.stringIter t pos)
  low : g < zi
  lx : zx < w.heap.size
  nx : ¬ CkX w g zx
  ni : ¬ CkX w g zi
  doc : w.rangeAt zx 1 (refV d)
  nxi : zx ≠ zi
section
variable {g : Nat} {deps : List (List UInt8)} {mk : List MadeD} {d : RefD} {t : ByteArray} {zx zi pos i : Nat} {w w1 w2 : World}
theorem InsJ.li (h : InsJ g deps mk d t zx zi pos i w) : zi < w.heap.size := (qX h.it)
theorem InsJ.iter (h : InsJ g deps mk d t zx zi pos i w) (pos' : Nat) : InsJ g deps mk d t zx zi pos' i (w.iterAt zi t pos') := by
  have hlow := h.low
  have hg : (w.iterAt zi t pos').heap[g]? = w.heap[g]? := Lib.iterAt_other w zi g t pos' (by omega)
  have hX : ∀ k, CkX (w.iterAt zi t pos') g k → CkX w g k := fun k q => q.elim .inl fun ⟨a, v, T, z, h1, q⟩ => .inr ⟨a, v, T, z, hg ▸ h1, q⟩
  obtain ⟨Ad, cd, vm, h1, h2, h3⟩ := h.ck
  refine ⟨⟨Ad, cd, vm, hg.trans h1, h2.keep (Lib.below_iterAt (qB _ _) (Nat.le_of_lt hlow) t pos'), own_iterAt h3 h.it pos'⟩, Lib.iterAt_heap w zi t pos pos' h.it, hlow, by rw [Lib.iterAt_size]; exact h.lx, fun q => h.nx (hX _ q), fun q => h.ni (hX _ q), fun j u hj => ?_, h.nxi⟩
  rw [← h.doc j u hj]
  unfold World.cell?
  simp only [Lib.iterAt_other w zi zx t pos' h.nxi]
/-- One more is made. -/
theorem InsJ.put {v' : Value} {Ad : Option Addr} {cd : Nat} {v : Value} (h : InsJ g deps mk d t zx zi pos i w) (h1 : w.heap[g]? = some (.cells #[.slice Ad deps.length cd, v] 349 (0, 0))) (hs : Sl w g Ad deps.length 32 (idsV deps)) (h2 : w.ownsRow (g + 1) 373 34 v (mk ++ List.replicate i (false, d)).length (rowsV madeV (mk ++ List.replicate i (false, d)))) (hb : Below w.heap.size w w1)
    (ho : w2.ownsRow (g + 1) 373 34 v' ((mk ++ List.replicate i (false, d)).length + 1) (rowsV madeV (mk ++ List.replicate i (false, d)) ++ madeV (false, d))) (hg : w1.grownBy w2 v.ownBlock) (hw : Where w1.heap.size v v') :
    (w2.cell? ⟨g, 1, none⟩ = some v ∧ w2.rangeAt zx 1 (refV d)) ∧ w2.frozen? ⟨g, 1, none⟩ = false ∧ InsJ g deps mk d t zx zi pos (i + 1) (w2.setCell ⟨g, 1, none⟩ v') ∧ CkGo g w (w2.setCell ⟨g, 1, none⟩ v') := by
  obtain ⟨c1, c2, c3, c4⟩ := CkAt.put (new := [(false, d)]) h1 hs h2 hb (by rw [show rowsV madeV [((false, d) : MadeD)] = madeV (false, d) by simp [rowsV]]; exact ho) hg hw
  have hnz : v.ownBlock ≠ some zx := fun e => h.nx (.inr ⟨_, v, _, _, h1, e⟩)
  have hz2 : w2.heap[zx]? = w.heap[zx]? := (hg.block zx (qL h.lx hb.size) (fun e => hnz e.symm)).trans (hb.block zx h.lx)
  have hd2 : w2.rangeAt zx 1 (refV d) := fun j u hj => by
    rw [← h.doc j u hj]
    unfold World.cell?
    simp only [hz2]
  refine ⟨⟨c1, hd2⟩, c2, ⟨?_, (c4.1.block zi h.li h.ni).trans h.it, h.low, qL h.lx c4.1.size, c4.not h.lx h.nx, c4.not h.li h.ni, fun j u hj => (c4.cell h.lx h.nx).trans (h.doc j u hj), h.nxi⟩, c4⟩
  rw [List.replicate_succ', ← List.append_assoc]
  exact c3
end
theorem made_built {d : RefD} (hd : RefOk d) (w : World) : (Instr.build 373 #[(1, .agg (refV d).toArray)]).run Tryz.prog w = .ok (.agg (madeV (false, d)).toArray) w := by
  obtain ⟨i, hi, hz, _, _⟩ := info_parts infoMade
  have hk : (refV zeroRef).length = 33 := rfl
  have h := built_struct (P := Tryz.prog) hi Tryz.underlying373 hz [[.bool false], refV zeroRef] rfl (places := [(0, 1), (1, 33)]) (by kernel_rfl) (by kernel_rfl) [(1, .agg (refV d).toArray)] (by
    intro q hq
    simp only [List.mem_cons, List.not_mem_nil, or_false] at hq
    subst hq
    exact ⟨by show 1 < 2; omega, by show (refV d).toArray.size = 33; rw [List.size_toArray, refV_length hd]⟩)
  have h2 := run_build (P := Tryz.prog) w 373 #[(1, .agg (refV d).toArray)] _ h
  refine h2.trans ?_
  simp [madeV, Value.cells]
end Go.Proofs.YtdgbjhfkmembdaaGreatDoor
