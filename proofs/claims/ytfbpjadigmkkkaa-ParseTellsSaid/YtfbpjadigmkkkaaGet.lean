/- parse.Get. -/
import Derived.Test.YtfbpjadigmkkkaaParsed
import Derived.Test.YtfbpjadigmkkkaaParseL
namespace Go.Proofs.Ytfbpjadigmkkkaa
open Go.RowKit

/-- An error of api's by its number. -/
def errV (n : Nat) : Value := if n = 0 then .nilIface else .iface 39 (.int .i64 n)

set_option maxHeartbeats 2000000 in
set_option maxRecDepth 100000 in
theorem strange_c (M : Nat → Prop) (l : List Tree) (v : Value) (w : World) (hl : Sl w M v l) (hsm : ∀ t ∈ l, t.small 9223372036854775807) {R : Ending → World → Prop}
    (h : ∀ w', Step Nil0 w w' → R (.returned (.bool (l.any (fun t => !mayTree t)))) w') :
    Calls Try.prog 13 #[v, .func (.func 14) #[] #[]] w R := by
  refine containsTree_c M _ l w hl _ (fun k => !mayTree k) (by intro args w'; go_simp) ?_ h
  intro x hx va' vk' w3 hst3 ha' hk' R3 h3
  obtain ⟨A', ca', rfl, _⟩ := ha'.form
  obtain ⟨K', ck', rfl, _⟩ := hk'.form
  replace h3 := Lib.hid h3
  have hsx := hsm x hx
  replace hsx := Lib.hid hsx
  go_enter Try.func14, Try.ntmps14
  go_wp2_with (go_at_call 15; with_reducible (refine treeMay_c M _ x _ _ _ (Nat.le_refl _) (ha'.up (Up.still ((Step.refl _ _).alloc _))) (hk'.up (Up.still ((Step.refl _ _).alloc _))) hsx.out _ ?_))
  intro w4 hst4
  go_wp2
  exact h3.out _ (((Step.refl _ _).alloc _).then_ hst4)

theorem isEmpty_str {l : Bs} : (str l).toList.isEmpty = l.isEmpty := by rw [str_toList]

set_option maxHeartbeats 4000000 in
set_option maxRecDepth 100000 in
theorem parseGet_c (l : Bs) (k : Int) (w : World) (hm : w.cell? ⟨0, 0, none⟩ = some (.int .i64 k)) (hl9 : l.length ≤ 9223372036854775807) {R : Ending → World → Prop}
    (h : ∀ w' v, Step Nil0 w w' → Sl w' (Old w.heap.size) v (pGet l).1 → R (.returned (.tuple #[v, errV (pGet l).2])) w') :
    Calls Try.prog 6 #[.string (str l)] w R := by
  have hsz : (str l).size = l.length := rfl
  have hw0 := lt_cells hm
  replace h := Lib.hid h
  by_cases h6 : 6000 < l.length
  · have h6a : decide (6000 < ((str l).size : Int)) = true := decide_eq_true (by rw [hsz]; omega)
    have h6b : decide (6000 < (str l).size) = true := decide_eq_true (by rw [hsz]; exact h6)
    have hno := h.out w (.slice none 0 0) (Step.refl _ _)
    unfold pGet at hno
    rw [if_pos h6] at hno
    have hn2 := hno (Sl.nil _ _)
    replace hn2 := Lib.hid hn2
    have hsl9 : (str l).size ≤ 9223372036854775807 := hl9
    clear hno hsz h
    go_enter Try.func6, Try.ntmps6
    go_wp2
    exact hn2.out
  · have h6a : decide (6000 < ((str l).size : Int)) = false := decide_eq_false (by rw [hsz]; omega)
    have h6b : decide (6000 < (str l).size) = false := decide_eq_false (by rw [hsz]; exact h6)
    have hfin : ∀ w' v, Step Nil0 w w' → Sl w' (Old w.heap.size) v (if pOk l then ((pNodes l.length 0 l false).1, 0) else ([], 7)).1 → R (.returned (.tuple #[v, errV (if pOk l then ((pNodes l.length 0 l false).1, 0) else (([] : List Tree), 7)).2])) w' := by
      have := h.out
      unfold pGet at this
      rw [if_neg h6] at this
      exact this
    have hbad : pOk l = false → ∀ w', Step Nil0 w w' → R (.returned (.tuple #[.slice none 0 0, errV 7])) w' := by
      intro hp w' hs
      have := hfin w' (.slice none 0 0) hs
      rw [hp] at this
      exact this (Sl.nil _ _)
    have hgood : pOk l = true → ∀ w' v, Step Nil0 w w' → Sl w' (Old w.heap.size) v (pNodes l.length 0 l false).1 → R (.returned (.tuple #[v, errV 0])) w' := by
      intro hp w' v hs hv
      have := hfin w' v hs
      rw [hp] at this
      exact this hv
    clear h hfin
    have hP0 : PBlk (w.alloc (.cells #[.string (str l), .bool false] 42)) w.heap.size l false := Blk.new w _ _
    have hst0 : Step Nil0 w (w.alloc (.cells #[.string (str l), .bool false] 42)) := (Step.refl _ _).alloc _
    have hm0 : (w.alloc (.cells #[.string (str l), .bool false] 42)).cell? ⟨0, 0, none⟩ = some (.int .i64 k) := hst0.cell hm (fun e => e)
    have hz0 : (w.alloc (.cells #[.string (str l), .bool false] 42)).heap.size = w.heap.size + 1 := by simp
    have hnd := nodes_c w.heap.size l.length k 0 l false (w.alloc (.cells #[.string (str l), .bool false] 42))
    have hsm := pNodes_sz l.length 0 l false
    have hpo : pOk l = !((pNodes l.length 0 l false).2.2 || (!(pNodes l.length 0 l false).2.1.isEmpty || ((pNodes l.length 0 l false).1.any (fun t => !mayTree t) || !((pNodes l.length 0 l false).1.flatMap htmlT == l)))) := rfl
    generalize pNodes l.length 0 l false = r at hnd hsm hpo hgood
    obtain ⟨ts, l2, b2⟩ := r
    simp only at hnd hsm hpo hgood
    have hts : ∀ t ∈ ts, t.small 9223372036854775807 := fun t ht => (smallTrees_iff ts).1 (smallTs_of_sz _ ts (by omega)) t ht
    have hhl : (ts.flatMap htmlT).length ≤ 20000000000000 := by
      have := htmlTs_le ts
      rw [htmlTs_flat] at this
      omega
    clear hsm hsz
    replace hnd := Lib.hid hnd
    replace hts := Lib.hid hts
    replace hbad := Lib.hid hbad
    replace hgood := Lib.hid hgood
    go_enter Try.func6, Try.ntmps6
    go_wp2_with (go_at_call 12; refine hnd.out _ (Nat.le_refl _) (by omega) (by omega) hP0 (by omega) hm0 ?_)
    intro w2 v hs2 hP2 hsl
    have hst2 : Step Nil0 w w2 := hst0.trans hs2 (fun b hlt hb => by simp only [One] at hb; omega)
    have hsl2 : Sl w2 (Old w.heap.size) v ts := hsl.weak (fun b _ hb => by simp only [Old] at hb ⊢; omega)
    obtain ⟨A, cap, rfl, hcap, hmax⟩ := hsl2.form
    clear hmax hsl hs2
    go_wp2_with (go_at_call 13; with_reducible (refine strange_c (Old w.heap.size) ts _ _ hsl2 hts.out ?_))
    intro w3 hs3
    have hP3 := hP2.step hs3 (fun h => h)
    have c0 := hP3.c0
    have c1 := hP3.c1
    have hsl3 := hsl2.up (Up.still hs3)
    have hst3 := hst2.then_ hs3
    clear hP0 hP2 hs3 hst0 hst2 hm0 hz0 hsl2
    cases b2
    case true =>
      have hb := hbad.out (by rw [hpo]; rfl) w3 hst3
      replace hb := Lib.hid hb
      clear hpo
      go_wp2
      exact hb.out
    cases hl2 : l2.isEmpty
    case false =>
      have hb := hbad.out (by rw [hpo, hl2]; rfl) w3 hst3
      have e0 : (str l2).toList.isEmpty = false := by rw [isEmpty_str, hl2]
      replace hb := Lib.hid hb
      replace hl2 := Lib.hid hl2
      clear hpo
      go_wp2
      exact hb.out
    have e0 : (str l2).toList.isEmpty = true := by rw [isEmpty_str, hl2]
    have e1 : (str l2).toList = [] := by rw [str_toList]; exact List.isEmpty_iff.1 hl2
    generalize hstr : ts.any (fun t => !mayTree t) = strange at hpo ⊢
    cases strange
    case true =>
      have hb := hbad.out (by rw [hpo, hl2]; rfl) w3 hst3
      replace hb := Lib.hid hb
      replace hl2 := Lib.hid hl2
      replace hstr := Lib.hid hstr
      clear hpo
      go_wp2
      exact hb.out
    generalize hh : ts.flatMap htmlT = html at hpo hhl
    have hall : ∀ (R : Ending → World → Prop), (∀ w', Step Nil0 w3 w' → R (.returned (.string (str html))) w') → Calls Try.prog 11 #[.slice A ts.length cap] w3 R := by
      intro R h1
      refine serialAll_c (Old w.heap.size) ts _ w3 hsl3 (by rw [hh]; exact hhl) ?_
      rw [hh]
      exact h1
    replace hall := Lib.hid hall
    replace hstr := Lib.hid hstr
    replace hh := Lib.hid hh
    cases heq : (html == l)
    · have hb := fun w4 (h4 : Step Nil0 w3 w4) => hbad.out (by rw [hpo, hl2, heq]; rfl) w4 (hst3.then_ h4)
      have hcmp : ((str html).toList == (str l).toList) = false := by rw [str_toList, str_toList]; exact heq
      replace hb := Lib.hid hb
      replace hl2 := Lib.hid hl2
      replace heq := Lib.hid heq
      clear hpo
      go_wp2_with (go_at_call 11; with_reducible (refine hall.out _ ?_))
      intro w4 hs4
      go_wp2
      exact hb.out w4 hs4
    · have hb := fun w4 (h4 : Step Nil0 w3 w4) => hgood.out (by rw [hpo, hl2, heq]; rfl) w4 _ (hst3.then_ h4) (hsl3.up (Up.still h4))
      have hcmp : ((str html).toList == (str l).toList) = true := by rw [str_toList, str_toList]; exact heq
      replace hb := Lib.hid hb
      replace hl2 := Lib.hid hl2
      replace heq := Lib.hid heq
      clear hpo
      go_wp2_with (go_at_call 11; with_reducible (refine hall.out _ ?_))
      intro w4 hs4
      go_wp2
      exact hb.out w4 hs4
end Go.Proofs.Ytfbpjadigmkkkaa
