/- The parser's attr. -/
import Derived.Test.YtfbpjadigmkkkaaParsea
import Derived.Test.YtfbpjadigmkkkaaGrow
namespace Go.Proofs.Ytfbpjadigmkkkaa
open Go.RowKit

theorem bodyPost_cell {P : Program} {fn : Func} {R : Ending → World → Prop} {a : Act} {w : World} {v : Value} (slot : Nat) (t : TypeId) (ad : Addr) (hr : fn.results = #[.cell slot t]) (ht : a.tmps.getD slot undef = .pointer (some ad))
    (hd : a.defers = []) (hl : (loadVar t ad).run P w = .ok v w) (h : R (.returned v) w) : bodyPost P fn R .ret a w := by
  refine ⟨hd, v, ?_, h⟩
  unfold results
  rw [hr]
  have ht' : a.tmps[slot]?.getD undef = .pointer (some ad) := by simpa using ht
  simp [ht', asAddr, hl, Array.mapM_eq_mapM_toList]

set_option maxHeartbeats 2000000 in
theorem attr_c (p : Nat) (l : Bs) (bad : Bool) (n : Int) (w : World) (hP : PBlk w p l bad) (hs : l.length < 4294967281) (hp : p ≠ 0) (hm : w.cell? ⟨0, 0, none⟩ = some (.int .i64 n)) {R : Ending → World → Prop}
    (h : ∀ w', Step (One p) w w' → PBlk w' p (pAttr l bad).2.1 (pAttr l bad).2.2 → R (.returned (.agg #[.string (pAttr l bad).1.name, .string (pAttr l bad).1.value, .bool (pAttr l bad).1.static])) w') :
    Calls Try.prog 49 #[.pointer (some ⟨p, 0, none⟩)] w R := by
  have hpw := Blk.lt hP
  have h0w := lt_cells hm
  have hb0 := Blk.new w 74 #[.string ⟨#[]⟩, .string ⟨#[]⟩, .bool false]
  have hP0 : PBlk (w.alloc (.cells #[.string ⟨#[]⟩, .string ⟨#[]⟩, .bool false] 74)) p l bad := Blk.alloc hP _
  have hst0 : Step (One p) w (w.alloc (.cells #[.string ⟨#[]⟩, .string ⟨#[]⟩, .bool false] 74)) := (Step.refl _ _).alloc _
  have hm0 : (w.alloc (.cells #[.string ⟨#[]⟩, .string ⟨#[]⟩, .bool false] 74)).cell? ⟨0, 0, none⟩ = some (.int .i64 n) := hst0.cell hm (fun e => hp e.symm)
  have hz0 : (w.alloc (.cells #[.string ⟨#[]⟩, .string ⟨#[]⟩, .bool false] 74)).heap.size = w.heap.size + 1 := by simp
  have hnp : ¬ One p w.heap.size := fun e => by simp only [One] at e; omega
  replace h := Lib.hid h
  replace hnp := Lib.hid hnp
  go_enter Try.func49, Try.ntmps49
  go_wp2_with (go_at_call 48; refine mark_c p l [32] bad _ hP0 ?_)
  intro w1 hs1 hP1
  have hm1 := hs1.cell hm0 (fun e => hp e.symm)
  have hb1 := hb0.step hs1 hnp.out
  have hl1 : (pMark [32] l bad).1.length ≤ l.length := trim_le _ _
  have hal : pAttr l bad = (⟨str (pUpto [61, 34] (pMark [32] l bad).1 (pMark [32] l bad).2).1, str (pValue (pUpto [34] (pUpto [61, 34] (pMark [32] l bad).1 (pMark [32] l bad).2).2.1 (pUpto [61, 34] (pMark [32] l bad).1 (pMark [32] l bad).2).2.2).1 (pUpto [34] (pUpto [61, 34] (pMark [32] l bad).1 (pMark [32] l bad).2).2.1 (pUpto [61, 34] (pMark [32] l bad).1 (pMark [32] l bad).2).2.2).2.2).1, false⟩,
    (pUpto [34] (pUpto [61, 34] (pMark [32] l bad).1 (pMark [32] l bad).2).2.1 (pUpto [61, 34] (pMark [32] l bad).1 (pMark [32] l bad).2).2.2).2.1, (pValue (pUpto [34] (pUpto [61, 34] (pMark [32] l bad).1 (pMark [32] l bad).2).2.1 (pUpto [61, 34] (pMark [32] l bad).1 (pMark [32] l bad).2).2.2).1 (pUpto [34] (pUpto [61, 34] (pMark [32] l bad).1 (pMark [32] l bad).2).2.1 (pUpto [61, 34] (pMark [32] l bad).1 (pMark [32] l bad).2).2.2).2.2).2) := rfl
  replace h := h.out
  rw [hal] at h
  clear hal
  generalize pMark [32] l bad = r1 at hP1 hl1 h
  obtain ⟨l1, b1⟩ := r1
  simp only at hP1 hl1 h
  have hl2 : (pUpto [61, 34] l1 b1).2.1.length ≤ l1.length := by have := cut_le l1 [61, 34]; simp only [pUpto]; omega
  generalize hr2 : pUpto [61, 34] l1 b1 = r2 at h hl2
  obtain ⟨key, l2, b2⟩ := r2
  simp only at h hl2
  have hu1 := fun R w => upto_c p l1 [61, 34] b1 n w (R := R)
  rw [hr2] at hu1
  simp only at hu1
  have hl3 : (pUpto [34] l2 b2).1.length + (pUpto [34] l2 b2).2.1.length ≤ l2.length := cut_le l2 [34]
  generalize hr3 : pUpto [34] l2 b2 = r3 at h hl3
  obtain ⟨txt, l3, b3⟩ := r3
  simp only at h hl3
  have hu2 := fun R w => upto_c p l2 [34] b2 n w (R := R)
  rw [hr3] at hu2
  simp only at hu2
  generalize hr4 : pValue txt b3 = r4 at h
  obtain ⟨val, b4⟩ := r4
  simp only at h
  have hu3 := fun R w => value_c p l3 txt b3 w (R := R)
  rw [hr4] at hu3
  simp only at hu3
  clear hr2 hr3 hr4
  replace h := Lib.hid h
  replace hu1 := Lib.hid hu1
  replace hu2 := Lib.hid hu2
  replace hu3 := Lib.hid hu3
  have hs01 := hst0.then_ hs1
  go_wp2_with (go_at_call 62; refine hu1.out _ _ hP1 (by omega) hp hm1 ?_)
  intro w2 hs2 hP2
  have hm2 := hs2.cell hm1 (fun e => hp e.symm)
  have hb2 := hb1.step hs2 hnp.out
  have hs02 := hs01.then_ hs2
  go_wp2_with (go_at_call 62; refine hu2.out _ _ hP2 (by omega) hp hm2 ?_)
  intro w3 hs3 hP3
  have hb3 := hb2.step hs3 hnp.out
  have hs03 := hs02.then_ hs3
  go_wp2_with (go_at_call 27; refine hu3.out _ _ hP3 (by omega) ?_)
  intro w4 hs4 hP4
  have hb4 := hb3.step hs4 hnp.out
  have hs04 := hs03.then_ hs4
  have x0 : w4.cell? ⟨w.heap.size, 0, none⟩ = some (.string ⟨#[]⟩) := by rw [hb4.cell]; rfl
  have x1 : w4.cell? ⟨w.heap.size, 1, none⟩ = some (.string ⟨#[]⟩) := by rw [hb4.cell]; rfl
  have x2 : w4.cell? ⟨w.heap.size, 2, none⟩ = some (.bool false) := by rw [hb4.cell]; rfl
  have g0 := hb4.frozen 0
  have g1 := hb4.frozen 1
  have g2 := hb4.frozen 2
  clear hs1 hs2 hs3 hs4 hP0 hP1 hP2 hP3 hb0 hb1 hb2 hb3 hm0 hm1 hm2
  have b1 := (hb4.set_ 0 (.string (str key))).set_ 1 (.string (str val)) |>.set_ 2 (.bool false)
  have hs5 : Step (One p) w (((w4.setCell ⟨w.heap.size, 0, none⟩ (.string (str key))).setCell ⟨w.heap.size, 1, none⟩ (.string (str val))).setCell ⟨w.heap.size, 2, none⟩ (.bool false)) :=
    ((hs04.setCell (p := ⟨w.heap.size, 0, none⟩) _ (fun h => absurd h (by simp))).setCell (p := ⟨w.heap.size, 1, none⟩) _ (fun h => absurd h (by simp))).setCell (p := ⟨w.heap.size, 2, none⟩) _ (fun h => absurd h (by simp))
  have hP5 : PBlk (((w4.setCell ⟨w.heap.size, 0, none⟩ (.string (str key))).setCell ⟨w.heap.size, 1, none⟩ (.string (str val))).setCell ⟨w.heap.size, 2, none⟩ (.bool false)) p l3 b4 :=
    ((Blk.far hP4 (p := ⟨w.heap.size, 0, none⟩) (by simp; omega) _).far (p := ⟨w.heap.size, 1, none⟩) (by simp; omega) _).far (p := ⟨w.heap.size, 2, none⟩) (by simp; omega) _
  have hr := h.out _ hs5 hP5
  replace hr := Lib.hid hr
  have y0 := b1.cell 0
  have y1 := b1.cell 1
  have y2 := b1.cell 2
  clear hs5 hP5 hs04 hs03 hs02 hs01 hP4 h hu1 hu2 hu3
  replace b1 := Lib.hid b1
  go_wp2
  refine bodyPost_cell 2 74 ⟨w.heap.size, 0, none⟩ rfl rfl rfl ?_ hr.out
  clear hr
  generalize ((w4.setCell ⟨w.heap.size, 0, none⟩ (.string (str key))).setCell ⟨w.heap.size, 1, none⟩ (.string (str val))).setCell ⟨w.heap.size, 2, none⟩ (.bool false) = W at y0 y1 y2 ⊢
  simp at y0 y1 y2
  go_simp
end Go.Proofs.Ytfbpjadigmkkkaa
