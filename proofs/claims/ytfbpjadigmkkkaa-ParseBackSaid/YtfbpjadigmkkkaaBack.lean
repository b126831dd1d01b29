/- ParseBack, walked. -/
import Derived.Test.YtfbpjadigmkkkaaUp
import Derived.Test.YtfbpjadigmkkkaaBackL
namespace Go.Proofs.Ytfbpjadigmkkkaa
open Go.RowKit

/-- parse.Get, by its error. -/
theorem get_cases (l : Bs) (k : Int) (w : World) (hm : w.cell? ⟨0, 0, none⟩ = some (.int .i64 k)) (hl9 : l.length ≤ 9223372036854775807) {R : Ending → World → Prop}
    (h : ∀ w' A c, Step Nil0 w w' → if (pGet l).2 = 0 then Sl w' (Old w.heap.size) (.slice A (pGet l).1.length c) (pGet l).1 → R (.returned (.tuple #[.slice A (pGet l).1.length c, .nilIface])) w'
      else R (.returned (.tuple #[.slice A 0 c, .iface 39 (.int .i64 (pGet l).2)])) w') :
    Calls Try.prog 6 #[.string (str l)] w R := by
  refine parseGet_c l k w hm hl9 (fun w1 v hs1 hv => ?_)
  obtain ⟨A, c, rfl, hc, hmax⟩ := hv.form
  have h1 := h w1 A c hs1
  rcases pGet_code l with h0 | ⟨h0, _, h2⟩
  · rw [if_pos h0] at h1
    have h3 := h1 hv
    rw [h0]
    exact h3
  · rw [if_neg h0] at h1
    have e : errV (pGet l).2 = .iface 39 (.int .i64 (pGet l).2) := by unfold errV; rw [if_neg h0]
    rw [e, h2]
    exact h1

set_option maxHeartbeats 4000000 in
set_option maxRecDepth 100000 in
theorem parseBack_c (M : Nat → Prop) (q : Bs) (l : List Tree) (v : Value) (k : Int) (w : World) (hm : w.cell? ⟨0, 0, none⟩ = some (.int .i64 k)) (hq9 : q.length ≤ 9223372036854775807) (hl : Sl w M v l) (hsm : ∀ t ∈ l, t.small 9223372036854775807)
    {R : Ending → World → Prop} (h : ∀ w', Step Nil0 w w' → R (.returned (.bool true)) w') : Calls Try.prog 4 #[.string (str q), v] w R := by
  have hsz : (str q).size = q.length := rfl
  obtain ⟨A, cap, rfl, hcap, hmax⟩ := hl.form
  clear hmax
  replace h := Lib.hid h
  replace hsm := Lib.hid hsm
  go_enter Try.func4, Try.ntmps4
  by_cases h7 : 7000 < q.length
  · have h7a : decide (7000 < ((str q).size : Int)) = true := decide_eq_true (by rw [hsz]; omega)
    have h7b : decide (7000 < (str q).size) = true := decide_eq_true (by rw [hsz]; exact h7)
    have hq9' : (str q).size ≤ 9223372036854775807 := hq9
    clear hsz
    go_wp2_with (go_at_call 5; refine up_c k _ hm ?_)
    intro w1 hs1
    go_wp2
    exact h.out w1 hs1
  have h7a : decide (7000 < ((str q).size : Int)) = false := decide_eq_false (by rw [hsz]; omega)
  have h7b : decide (7000 < (str q).size) = false := decide_eq_false (by rw [hsz]; exact h7)
  have hq9' : (str q).size ≤ 9223372036854775807 := hq9
  clear hsz
  have hmb := manyTs_le l 0 50 (by omega)
  have hma := fun (w : World) hl (R : Ending → World → Prop) => manyAll_c M l 50 (.slice A l.length cap) w (by omega) (by omega) hl hsm.out (R := R)
  by_cases h5 : 50 < manyTs l 0 50
  · generalize manyTs l 0 50 = r at hmb h5 hma
    have h5a : decide (50 < r) = true := decide_eq_true h5
    replace hma := Lib.hid hma
    go_wp2_with (first | (go_at_call 5; refine up_c k _ hm ?_; intro w1 hs1) | (go_at_call 10; refine hma.out _ (hl.up (Up.still hs1)) _ ?_))
    intro w2 hs2
    go_wp2
    exact h.out w2 (hs1.then_ hs2)
  have hhl := many_html (l := l) (by omega)
  generalize manyTs l 0 50 = r at hmb h5 hma
  have h5a : decide (50 < r) = false := decide_eq_false h5
  replace hma := Lib.hid hma
  generalize hhe : l.flatMap htmlT = html at hhl
  have hall : ∀ (w : World), Sl w M (.slice A l.length cap) l → ∀ (R : Ending → World → Prop), (∀ w', Step Nil0 w w' → R (.returned (.string (str html))) w') → Calls Try.prog 11 #[.slice A l.length cap] w R := by
    intro w hl R h1
    refine serialAll_c M l _ w hl (by rw [hhe]; omega) ?_
    rw [hhe]
    exact h1
  replace hall := Lib.hid hall
  clear hhe
  -- what serial.All tells of what was got
  have hput : ∀ (g : Bs), (pGet g).2 = 0 → g.length ≤ 1000000 → ∀ (N : Nat → Prop) (v : Value) (w : World), Sl w N v (pGet g).1 → ∀ (R : Ending → World → Prop), (∀ w', Step Nil0 w w' → R (.returned (.string (str g))) w') → Calls Try.prog 11 #[v] w R := by
    intro g h0 hg N v w hv R h1
    have e := pGet_put h0
    refine serialAll_c N _ _ w hv (by rw [e]; omega) ?_
    rw [e]
    exact h1
  have hg1 := fun w hm (R : Ending → World → Prop) => get_cases q k w hm hq9 (R := R)
  have hg2 := fun w hm (R : Ending → World → Prop) => get_cases html k w hm (by omega) (R := R)
  have hput1 := hput q
  have hput2 := hput html
  have cq : ((str q).toList == (str q).toList) = true := by simp
  have ch : ((str html).toList == (str html).toList) = true := by simp
  have hq6 : q.length ≤ 1000000 := by omega
  have hh6 : html.length ≤ 1000000 := by omega
  clear hput
  generalize pGet q = r1 at hg1 hput1
  generalize pGet html = r2 at hg2 hput2
  obtain ⟨x, n⟩ := r1
  obtain ⟨y, m⟩ := r2
  simp only at hg1 hg2 hput1 hput2
  have h2a : ∀ n : Nat, n ≠ 0 → (n = 0) = False := fun n h => by simp [h]
  by_cases hn : n = 0
  · subst hn
    simp only [if_true] at hg1
    replace hg1 := Lib.hid hg1
    have hp1 := hput1 rfl hq6
    replace hp1 := Lib.hid hp1
    clear hput1
    by_cases hm2 : m = 0
    · subst hm2
      simp only [if_true] at hg2
      replace hg2 := Lib.hid hg2
      have hp2 := hput2 rfl hh6
      replace hp2 := Lib.hid hp2
      clear hput2 h2a
      go_wp2_with (first | (go_at_call 5; refine up_c k _ hm ?_; intro w1 hs1) | (go_at_call 10; refine hma.out _ (hl.up (Up.still hs1)) _ ?_))
      intro w2 hs2
      have hst2 := hs1.then_ hs2
      go_wp2_with (go_at_call 6; refine hg1.out _ (hst2.cell hm (fun e => e)) _ ?_)
      intro w3 A3 c3 hs3 hx
      have hst3 := hst2.then_ hs3
      go_wp2_with (go_at_call 11; with_reducible (refine hp1.out _ _ _ hx _ ?_))
      intro w4 hs4
      go_wp2_with (go_at_call 11; with_reducible (refine hall.out _ (hl.up (Up.still (hst3.then_ hs4))) _ ?_))
      intro w5 hs5
      have hst5 := (hst3.then_ hs4).then_ hs5
      go_wp2_with (go_at_call 6; refine hg2.out _ (hst5.cell hm (fun e => e)) _ ?_)
      intro w6 A6 c6 hs6 hy
      have hst6 := hst5.then_ hs6
      go_wp2_with (go_at_call 11; with_reducible (refine hp2.out _ _ _ hy _ ?_))
      intro w7 hs7
      go_wp2
      exact h.out w7 (hst6.then_ hs7)
    · simp only [h2a m hm2, if_false] at hg2
      replace hg2 := Lib.hid hg2
      clear hput2 h2a
      go_wp2_with (first | (go_at_call 5; refine up_c k _ hm ?_; intro w1 hs1) | (go_at_call 10; refine hma.out _ (hl.up (Up.still hs1)) _ ?_))
      intro w2 hs2
      have hst2 := hs1.then_ hs2
      go_wp2_with (go_at_call 6; refine hg1.out _ (hst2.cell hm (fun e => e)) _ ?_)
      intro w3 A3 c3 hs3 hx
      have hst3 := hst2.then_ hs3
      go_wp2_with (go_at_call 11; with_reducible (refine hp1.out _ _ _ hx _ ?_))
      intro w4 hs4
      go_wp2_with (go_at_call 11; with_reducible (refine hall.out _ (hl.up (Up.still (hst3.then_ hs4))) _ ?_))
      intro w5 hs5
      have hst5 := (hst3.then_ hs4).then_ hs5
      go_wp2_with (go_at_call 6; refine hg2.out _ (hst5.cell hm (fun e => e)) _ ?_)
      intro w6 A6 c6 hs6
      have hst6 := hst5.then_ hs6
      go_wp2
      exact h.out w6 hst6
  · simp only [h2a n hn, if_false] at hg1
    replace hg1 := Lib.hid hg1
    clear hput1
    by_cases hm2 : m = 0
    · subst hm2
      simp only [if_true] at hg2
      replace hg2 := Lib.hid hg2
      have hp2 := hput2 rfl hh6
      replace hp2 := Lib.hid hp2
      clear hput2 h2a
      go_wp2_with (first | (go_at_call 5; refine up_c k _ hm ?_; intro w1 hs1) | (go_at_call 10; refine hma.out _ (hl.up (Up.still hs1)) _ ?_))
      intro w2 hs2
      have hst2 := hs1.then_ hs2
      go_wp2_with (go_at_call 6; refine hg1.out _ (hst2.cell hm (fun e => e)) _ ?_)
      intro w3 A3 c3 hs3
      have hst3 := hst2.then_ hs3
      go_wp2_with (go_at_call 11; with_reducible (refine hall.out _ (hl.up (Up.still hst3)) _ ?_))
      intro w5 hs5
      have hst5 := hst3.then_ hs5
      go_wp2_with (go_at_call 6; refine hg2.out _ (hst5.cell hm (fun e => e)) _ ?_)
      intro w6 A6 c6 hs6 hy
      have hst6 := hst5.then_ hs6
      go_wp2_with (go_at_call 11; with_reducible (refine hp2.out _ _ _ hy _ ?_))
      intro w7 hs7
      go_wp2
      exact h.out w7 (hst6.then_ hs7)
    · simp only [h2a m hm2, if_false] at hg2
      replace hg2 := Lib.hid hg2
      clear hput2 h2a
      go_wp2_with (first | (go_at_call 5; refine up_c k _ hm ?_; intro w1 hs1) | (go_at_call 10; refine hma.out _ (hl.up (Up.still hs1)) _ ?_))
      intro w2 hs2
      have hst2 := hs1.then_ hs2
      go_wp2_with (go_at_call 6; refine hg1.out _ (hst2.cell hm (fun e => e)) _ ?_)
      intro w3 A3 c3 hs3
      have hst3 := hst2.then_ hs3
      go_wp2_with (go_at_call 11; with_reducible (refine hall.out _ (hl.up (Up.still hst3)) _ ?_))
      intro w5 hs5
      have hst5 := hst3.then_ hs5
      go_wp2_with (go_at_call 6; refine hg2.out _ (hst5.cell hm (fun e => e)) _ ?_)
      intro w6 A6 c6 hs6
      have hst6 := hst5.then_ hs6
      go_wp2
      exact h.out w6 hst6
end Go.Proofs.Ytfbpjadigmkkkaa
