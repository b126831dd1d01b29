/- The reference's Get, walked, guess by its contract. -/
import Derived.Test.YtfbpjadigmkkkaaGuess
import Derived.Test.YtfbpjadigmkkkaaGet
namespace Go.Proofs.Ytfbpjadigmkkkaa
open Go.RowKit

mutual
theorem deepT_sz : ∀ t : Tree, deepT t ≤ szT t
  | ⟨tag, text, key, attrs, kids⟩ => by
    have := deepTs_sz kids
    rw [deepT, szT]
    split <;> omega
theorem deepTs_sz : ∀ l : List Tree, deepTs l ≤ szTs l
  | [] => by rw [deepTs, szTs]; exact Nat.le_refl _
  | t :: ts => by
    have := deepT_sz t
    have := deepTs_sz ts
    rw [deepTs, szTs]
    omega
end

set_option maxHeartbeats 4000000 in
set_option maxRecDepth 100000 in
theorem rGet_c (hG : ∀ n, GuessC n) (l : Bs) (w : World) (hl9 : l.length ≤ 9223372036854775807) {R : Ending → World → Prop}
    (h : ∀ w' v, Step Nil0 w w' → Sl w' (Old w.heap.size) v (gGet l).1 → R (.returned (.tuple #[v, .int .i64 (gGet l).2])) w') :
    Calls Try.prog 7 #[.string (str l)] w R := by
  have hsz : (str l).size = l.length := rfl
  replace h := Lib.hid h
  by_cases h6 : 6000 < l.length
  · have h6a : decide (6000 < ((str l).size : Int)) = true := decide_eq_true (by rw [hsz]; omega)
    have h6b : decide (6000 < (str l).size) = true := decide_eq_true (by rw [hsz]; exact h6)
    have hno := h.out w (.slice none 0 0) (Step.refl _ _)
    unfold gGet at hno
    rw [if_pos h6] at hno
    have hn2 := hno (Sl.nil _ _)
    replace hn2 := Lib.hid hn2
    have hsl9 : (str l).size ≤ 9223372036854775807 := hl9
    clear hno hsz h
    go_enter Try.func7, Try.ntmps7
    go_wp2
    exact hn2.out
  · have h6a : decide (6000 < ((str l).size : Int)) = false := decide_eq_false (by rw [hsz]; omega)
    have h6b : decide (6000 < (str l).size) = false := decide_eq_false (by rw [hsz]; exact h6)
    have hfin : ∀ w' v, Step Nil0 w w' → Sl w' (Old w.heap.size) v (if gOk (gNodes l.length 0 l).1 l then ((gNodes l.length 0 l).1, 0) else (([] : List Tree), 7)).1 →
        R (.returned (.tuple #[v, .int .i64 ((if gOk (gNodes l.length 0 l).1 l then ((gNodes l.length 0 l).1, 0) else (([] : List Tree), 7)).2 : Nat)])) w' := by
      have := h.out
      unfold gGet at this
      rw [if_neg h6] at this
      exact this
    have hnd := hG l.length 0 l w
    have hsm := gNodes_sz l.length 0 l
    generalize (gNodes l.length 0 l) = r at hnd hsm hfin
    obtain ⟨ts, l2⟩ := r
    simp only at hnd hsm hfin
    have hbad : gOk ts l = false → ∀ w', Step Nil0 w w' → R (.returned (.tuple #[.slice none 0 0, .int .i64 7])) w' := by
      intro hp w' hs
      have := hfin w' (.slice none 0 0) hs
      rw [hp] at this
      exact this (Sl.nil _ _)
    have hgood : gOk ts l = true → ∀ w' v, Step Nil0 w w' → Sl w' (Old w.heap.size) v ts → R (.returned (.tuple #[v, .int .i64 0])) w' := by
      intro hp w' v hs hv
      have := hfin w' v hs
      rw [hp] at this
      exact this hv
    have hts : ∀ t ∈ ts, t.small 9223372036854775807 := fun t ht => (smallTrees_iff ts).1 (smallTs_of_sz _ ts (by omega)) t ht
    have hhl : (ts.flatMap htmlT).length ≤ 20000000000000 := by
      have := htmlTs_le ts
      rw [htmlTs_flat] at this
      omega
    have hdp : deepTs ts ≤ 1000000000 := by
      have := deepTs_sz ts
      omega
    have hgo : gOk ts l = (ts.all mayTree && ((ts.flatMap htmlT == l) && (plainTs false ts && decide (deepTs ts ≤ 200)))) := rfl
    clear hsm hsz h hfin
    replace hnd := Lib.hid hnd
    replace hts := Lib.hid hts
    replace hbad := Lib.hid hbad
    replace hgood := Lib.hid hgood
    replace hgo := Lib.hid hgo
    go_enter Try.func7, Try.ntmps7
    go_wp2_with (go_at_call 16; refine hnd.out _ (Nat.le_refl _) (by omega) (by omega) ?_)
    intro w2 v hs2 hsl2
    obtain ⟨A, cap, rfl, hcap, hmax⟩ := hsl2.form
    have hlen : ts.length ≤ 9223372036854775807 := by simp only [maxLen] at hmax; omega
    clear hmax
    go_wp2
    go_loopw [6] (fun i wr => ∃ k : Nat, k ≤ ts.length ∧ i = .int .i64 k ∧ Step Nil0 w2 wr ∧ ∀ j (hj : j < ts.length), j < k → mayTree ts[j] = true) (fun i _ => ts.length - (intOf i).toNat)
    case atStart => exact ⟨0, Nat.zero_le _, rfl, Step.refl _ _, fun j _ h => absurd h (by omega)⟩
    case round =>
      obtain ⟨k, hk, rfl, hst, hall⟩ := hrel
      replace hall := Lib.hid hall
      have hslr := hsl2.up (Up.still hst)
      have hst2 := hs2.then_ hst
      by_cases hlt : k < ts.length
      · obtain ⟨ad, va, vk, hA, hnm, x0, x1, x2, x3, x4, xa, xk⟩ := at_tree hslr k hlt
        subst hA
        clear hnm
        obtain ⟨A1, ca1, rfl, _⟩ := xa.form
        obtain ⟨K1, ck1, rfl, _⟩ := xk.form
        have hzk := hts.out _ (List.getElem_mem hlt)
        replace hzk := Lib.hid hzk
        cases em : mayTree ts[k]
        · have hb := fun w' (hs : Step Nil0 wr w') => hbad.out (by rw [hgo.out, show ts.all mayTree = false from List.all_eq_false.2 ⟨ts[k], List.getElem_mem hlt, by rw [em]; decide⟩]; rfl) w' (hst2.then_ hs)
          replace hb := Lib.hid hb
          replace em := Lib.hid em
          go_wp2_with (go_at_call 17; with_reducible (refine rmayT_c _ _ _ _ _ _ (Nat.le_refl _) xa xk hzk.out _ ?_))
          intro w3 hs3
          rw [em.out]
          go_wp2
          exact hb.out w3 hs3
        · replace em := Lib.hid em
          go_wp2_with (go_at_call 17; with_reducible (refine rmayT_c _ _ _ _ _ _ (Nat.le_refl _) xa xk hzk.out _ ?_))
          intro w3 hs3
          rw [em.out]
          go_wp2
          go_roundw
          case rel =>
            refine ⟨k + 1, by omega, by go_num, hst.then_ hs3, fun j hj hjk => ?_⟩
            rcases Nat.lt_or_ge j k with h3 | h3
            · exact hall.out j hj h3
            · obtain rfl : j = k := by omega
              exact em.out
          case measure => simp [intOf]; omega
      · have hm : ts.all mayTree = true := List.all_eq_true.2 (fun x hx => by obtain ⟨j, hj, rfl⟩ := List.getElem_of_mem hx; exact hall.out j hj (by omega))
        have hgo2 := hgo.out
        rw [hm, Bool.true_and] at hgo2
        generalize hh : ts.flatMap htmlT = html at hgo2 hhl
        have hal : ∀ (R : Ending → World → Prop), (∀ w', Step Nil0 wr w' → R (.returned (.string (str html))) w') → Calls Try.prog 18 #[.slice A ts.length cap] wr R := by
          intro R h1
          refine rall_c (Old w.heap.size) ts _ wr hslr (by rw [hh]; exact hhl) ?_
          rw [hh]
          exact h1
        replace hal := Lib.hid hal
        replace hh := Lib.hid hh
        replace hm := Lib.hid hm
        clear hall
        cases heq : (html == l)
        · rw [heq, Bool.false_and] at hgo2
          have hb := fun w' (hs : Step Nil0 wr w') => hbad.out hgo2 w' (hst2.then_ hs)
          have hcmp : ((str html).toList == (str l).toList) = false := by rw [str_toList, str_toList]; exact heq
          replace hb := Lib.hid hb
          replace heq := Lib.hid heq
          clear hgo2
          go_wp2_with (go_at_call 18; with_reducible (refine hal.out _ ?_))
          intro w3 hs3
          go_wp2
          exact hb.out w3 hs3
        · rw [heq, Bool.true_and] at hgo2
          have hcmp : ((str html).toList == (str l).toList) = true := by rw [str_toList, str_toList]; exact heq
          replace heq := Lib.hid heq
          cases hp : plainTs false ts
          · rw [hp, Bool.false_and] at hgo2
            have hb := fun w' (hs : Step Nil0 wr w') => hbad.out hgo2 w' (hst2.then_ hs)
            replace hb := Lib.hid hb
            replace hp := Lib.hid hp
            clear hgo2
            go_wp2_with (go_at_call 18; with_reducible (refine hal.out _ ?_))
            intro w3 hs3
            go_wp2_with (go_at_call 19; with_reducible (refine rplain_c (Old w.heap.size) _ ts _ _ (Nat.le_refl _) (hslr.up (Up.still hs3)) _ ?_))
            intro w4 hs4
            rw [hp.out]
            go_wp2
            exact hb.out w4 (hs3.then_ hs4)
          · rw [hp, Bool.true_and] at hgo2
            replace hp := Lib.hid hp
            have hde := fun (w : World) hl (R : Ending → World → Prop) => rdeep_c (Old w2.heap.size) _ ts (.slice A ts.length cap) w (Nat.le_refl _) hl hdp R
            have hslo := fun w' (hs : Step Nil0 wr w') => hslr.up (Up.still (M := Old w.heap.size) hs)
            have hde2 := fun (w3 : World) (hs : Step Nil0 wr w3) (R : Ending → World → Prop) => rdeep_c (Old w.heap.size) _ ts (.slice A ts.length cap) w3 (Nat.le_refl _) (hslo w3 hs) hdp R
            clear hde
            by_cases hdd : deepTs ts ≤ 200
            · have hg := fun w' (hs : Step Nil0 wr w') => hgood.out (by rw [hgo2]; exact decide_eq_true hdd) w' _ (hst2.then_ hs) (hslo w' hs)
              generalize deepTs ts = dp at hde2 hdd hdp
              have hdd2 : decide (200 < (dp : Int)) = false := decide_eq_false (by omega)
              replace hg := Lib.hid hg
              replace hde2 := Lib.hid hde2
              replace hslo := Lib.hid hslo
              clear hgo2
              go_wp2_with (go_at_call 18; with_reducible (refine hal.out _ ?_))
              intro w3 hs3
              go_wp2_with (go_at_call 19; with_reducible (refine rplain_c (Old w.heap.size) _ ts _ _ (Nat.le_refl _) (hslo.out _ hs3) _ ?_))
              intro w4 hs4
              rw [hp.out]
              go_wp2_with (go_at_call 20; with_reducible (refine hde2.out _ (hs3.then_ hs4) _ ?_))
              intro w5 hs5
              go_wp2
              exact hg.out w5 ((hs3.then_ hs4).then_ hs5)
            · have hb := fun w' (hs : Step Nil0 wr w') => hbad.out (by rw [hgo2]; exact decide_eq_false hdd) w' (hst2.then_ hs)
              generalize deepTs ts = dp at hde2 hdd hdp
              have hdd2 : decide (200 < (dp : Int)) = true := decide_eq_true (by omega)
              replace hb := Lib.hid hb
              replace hde2 := Lib.hid hde2
              replace hslo := Lib.hid hslo
              clear hgo2
              go_wp2_with (go_at_call 18; with_reducible (refine hal.out _ ?_))
              intro w3 hs3
              go_wp2_with (go_at_call 19; with_reducible (refine rplain_c (Old w.heap.size) _ ts _ _ (Nat.le_refl _) (hslo.out _ hs3) _ ?_))
              intro w4 hs4
              rw [hp.out]
              go_wp2_with (go_at_call 20; with_reducible (refine hde2.out _ (hs3.then_ hs4) _ ?_))
              intro w5 hs5
              go_wp2
              exact hb.out w5 ((hs3.then_ hs4).then_ hs5)
end Go.Proofs.Ytfbpjadigmkkkaa
