/- ParseTells, walked, guess by its contract. -/
import Derived.Test.YtfbpjadigmkkkaaRGet
import Derived.Test.YtfbpjadigmkkkaaCode
import Derived.Test.YtfbpjadigmkkkaaAgree
import Derived.Test.YtfbpjadigmkkkaaBackL
namespace Go.Proofs.Ytfbpjadigmkkkaa
open Go.RowKit

set_option maxHeartbeats 4000000 in
set_option maxRecDepth 100000 in
theorem parseTells_c (hG : ∀ n, GuessC n) (q : Bs) (k : Int) (w : World) (hm : w.cell? ⟨0, 0, none⟩ = some (.int .i64 k)) (hq9 : q.length ≤ 9223372036854775807)
    {R : Ending → World → Prop} (h : ∀ w', Step Nil0 w w' → R (.returned (.bool true)) w') : Calls Try.prog 3 #[.string (str q)] w R := by
  have hsz : (str q).size = q.length := rfl
  have hq9' : (str q).size ≤ 9223372036854775807 := hq9
  replace h := Lib.hid h
  by_cases h7 : 7000 < q.length
  · have h7a : decide (7000 < ((str q).size : Int)) = true := decide_eq_true (by rw [hsz]; omega)
    have h7b : decide (7000 < (str q).size) = true := decide_eq_true (by rw [hsz]; exact h7)
    clear hsz
    go_enter Try.func3, Try.ntmps3
    go_wp2_with (go_at_call 5; refine up_c k _ hm ?_)
    intro w1 hs1
    go_wp2
    exact h.out w1 hs1
  · have h7a : decide (7000 < ((str q).size : Int)) = false := decide_eq_false (by rw [hsz]; omega)
    have h7b : decide (7000 < (str q).size) = false := decide_eq_false (by rw [hsz]; exact h7)
    clear hsz
    have hg1 := fun (w : World) hm (R : Ending → World → Prop) => parseGet_c q k w hm hq9 (R := R)
    have hg2 := fun (w : World) (R : Ending → World → Prop) => rGet_c hG q w hq9 (R := R)
    rw [← gGet_eq] at hg2
    have hcode : (pGet q).2 ≤ 13 := by rcases pGet_code q with h0 | ⟨_, h1, _⟩ <;> omega
    generalize pGet q = r at hg1 hg2 hcode
    obtain ⟨ts, n⟩ := r
    dsimp only at hg1 hg2 hcode
    have hcd := fun (w : World) (R : Ending → World → Prop) => code_c n hcode w (R := R)
    obtain ⟨ev, hev⟩ : ∃ e, errV n = e := ⟨_, rfl⟩
    rw [hev] at hg1 hcd
    clear hev
    replace hg1 := Lib.hid hg1
    replace hg2 := Lib.hid hg2
    replace hcd := Lib.hid hcd
    go_enter Try.func3, Try.ntmps3
    go_wp2_with (go_at_call 5; refine up_c k _ hm ?_)
    intro w1 hs1
    go_wp2_with (go_at_call 6; with_reducible (refine hg1.out _ (hs1.cell hm (fun e => e)) _ ?_))
    intro w2 v2 hs2 hv2
    go_wp2_with (go_at_call 7; with_reducible (refine hg2.out _ _ ?_))
    intro w3 v3 hs3 hv3
    have hst3 := (hs1.then_ hs2).then_ hs3
    have ha : Sl w3 Nil0 v2 ts := (hv2.up (Up.still hs3)).weak (fun b _ hb => hb.elim)
    have hb : Sl w3 Nil0 v3 ts := hv3.weak (fun b _ hb => hb.elim)
    obtain ⟨A2, c2, rfl, _⟩ := ha.form
    obtain ⟨A3, c3, rfl, _⟩ := hb.form
    have hal := fun (R : Ending → World → Prop) => ralike_c Nil0 ts ts _ _ w3 ha hb (R := R)
    replace hal := Lib.hid hal
    clear hv2 hv3
    go_wp2_with (go_at_call 8; with_reducible (refine hcd.out _ _ ?_))
    go_wp2_with (go_at_call 9; with_reducible (refine hal.out _ ?_))
    intro w4 hs4
    go_wp2
    have hr := h.out w4 (hst3.then_ hs4)
    simpa using hr
end Go.Proofs.Ytfbpjadigmkkkaa
