/- How many nodes trees have, up to some: Few, Many, All; serial.All. -/
import Derived.Test.YtfbpjadigmkkkaaSerial
namespace Go.Proofs.Ytfbpjadigmkkkaa
open Go.RowKit

def shortA (a : Attr) : Bool := !decide (100 < a.name.size) && !decide (100 < a.value.size)
def fewI (l : List Attr) : Int := if (l.take 20).all shortA && decide (l.length ≤ 20) then 1 else 0
theorem few_no {l : List Attr} {k : Nat} (hk : k < l.length) (h20 : k < 20) (h : shortA l[k] = false) : fewI l = 0 := by
  unfold fewI
  rw [if_neg]
  intro hh
  simp only [Bool.and_eq_true, List.all_eq_true] at hh
  have := hh.1 l[k] (by rw [List.mem_take_iff_getElem]; exact ⟨k, by omega, rfl⟩)
  rw [h] at this
  cases this
theorem few_end {l : List Attr} (k : Nat) (hk : l.length ≤ k ∨ 20 ≤ k) (h : ∀ j (hj : j < l.length), j < k → shortA l[j] = true) : fewI l = if decide (20 < l.length) then 0 else 1 := by
  unfold fewI
  have : (l.take 20).all shortA = true := by
    rw [List.all_eq_true]
    intro x hx
    rw [List.mem_take_iff_getElem] at hx
    obtain ⟨j, hj, rfl⟩ := hx
    exact h j (by omega) (by omega)
  rw [this]
  by_cases h20 : l.length ≤ 20
  · simp [h20, Nat.not_lt.2 h20]
  · simp [h20, Nat.lt_of_not_le h20]

set_option maxHeartbeats 2000000 in
set_option maxRecDepth 100000 in
theorem few_c (M : Nat → Prop) (v : Value) (l : List Attr) (w : World) (hl : Sl w M v l) (hsz : ∀ a ∈ l, a.name.size ≤ 9223372036854775807 ∧ a.value.size ≤ 9223372036854775807) {R : Ending → World → Prop}
    (h : ∀ w', Step Nil0 w w' → R (.returned (.int .i64 (fewI l))) w') : Calls Try.prog 44 #[v] w R := by
  obtain ⟨A, cap, rfl, hcap, hmax⟩ := hl.form
  have hlen : l.length ≤ 9223372036854775807 := by simp only [maxLen] at hmax; omega
  clear hmax
  replace h := Lib.hid h
  go_enter Try.func44, Try.ntmps44
  go_wp2
  go_loopw [3] (fun i wr => ∃ k : Nat, k ≤ l.length ∧ k ≤ 20 ∧ i = .int .i64 k ∧ Step Nil0 w wr ∧ ∀ j (hj : j < l.length), j < k → shortA l[j] = true) (fun i _ => l.length - (intOf i).toNat)
  case atStart => exact ⟨0, Nat.zero_le _, by omega, rfl, Step.refl _ _, fun j _ hj => absurd hj (by omega)⟩
  case round =>
    obtain ⟨k, hk, hk20, rfl, hst, hall⟩ := hrel
    replace hall := Lib.hid hall
    by_cases hlt : k < l.length
    · have t0a : decide ((k : Int) < (l.length : Int)) = true := decide_eq_true (by omega)
      have t0b : decide (k < l.length) = true := decide_eq_true hlt
      by_cases h20 : k < 20
      · have t1a : decide ((k : Int) < 20) = true := decide_eq_true (by omega)
        have t1b : decide (k < 20) = true := decide_eq_true h20
        obtain ⟨ad, hA, hnm, x0, x1, x2⟩ := at_attr (hl.up (Up.still (M := M) hst)) k hlt
        subst hA
        clear hnm
        obtain ⟨z0, z1⟩ := hsz l[k] (List.getElem_mem hlt)
        by_cases hn : 100 < l[k].name.size
        · have t2a : decide (100 < (l[k].name.size : Int)) = true := decide_eq_true (by omega)
          have t2b : decide (100 < l[k].name.size) = true := decide_eq_true hn
          have hno := h.out
          rw [few_no hlt h20 (by unfold shortA; rw [t2b]; rfl)] at hno
          replace hno := Lib.hid hno
          go_wp2
          exact hno.out _ hst
        · have t2a : decide (100 < (l[k].name.size : Int)) = false := decide_eq_false (by omega)
          have t2b : decide (100 < l[k].name.size) = false := decide_eq_false hn
          by_cases hv : 100 < l[k].value.size
          · have t3a : decide (100 < (l[k].value.size : Int)) = true := decide_eq_true (by omega)
            have t3b : decide (100 < l[k].value.size) = true := decide_eq_true hv
            have hno := h.out
            rw [few_no hlt h20 (by unfold shortA; rw [t3b]; simp)] at hno
            replace hno := Lib.hid hno
            go_wp2
            exact hno.out _ hst
          · have t3a : decide (100 < (l[k].value.size : Int)) = false := decide_eq_false (by omega)
            have t3b : decide (100 < l[k].value.size) = false := decide_eq_false hv
            go_wp2
            go_roundw
            case rel =>
              refine ⟨k + 1, by omega, by omega, by go_num, hst, fun j hj hjk => ?_⟩
              rcases Nat.lt_or_ge j k with h3 | h3
              · exact hall.out j hj h3
              · obtain rfl : j = k := by omega
                unfold shortA; rw [t2b, t3b]; rfl
            case measure => simp [intOf]; omega
      · have t1a : decide ((k : Int) < 20) = false := decide_eq_false (by omega)
        have t1b : decide (k < 20) = false := decide_eq_false h20
        have hno := h.out
        rw [few_end k (.inr (by omega)) hall.out] at hno
        by_cases hm : 20 < l.length
        · have t2a : decide (20 < (l.length : Int)) = true := decide_eq_true (by omega)
          have t2b : decide (20 < l.length) = true := decide_eq_true hm
          rw [t2b, if_pos rfl] at hno
          replace hno := Lib.hid hno
          go_wp2
          exact hno.out _ hst
        · have t2a : decide (20 < (l.length : Int)) = false := decide_eq_false (by omega)
          have t2b : decide (20 < l.length) = false := decide_eq_false hm
          rw [t2b] at hno
          replace hno := Lib.hid hno
          go_wp2
          exact hno.out _ hst
    · have hno := h.out
      rw [few_end k (.inl (by omega)) hall.out] at hno
      by_cases hm : 20 < l.length
      · omega
      · have t2a : decide (20 < (l.length : Int)) = false := decide_eq_false (by omega)
        have t2b : decide (20 < l.length) = false := decide_eq_false hm
        rw [t2b] at hno
        replace hno := Lib.hid hno
        go_wp2
        exact hno.out _ hst
end Go.Proofs.Ytfbpjadigmkkkaa
