/- Names and texts: the program's functions of package name, by what they tell. -/
import Derived.Test.YtfbpjadigmkkkaaProg
import Derived.Test.YtfbpjadigmkkkaaTreeP
import Derived.WalkKit
import Derived.KernelRfl
import Derived.Deep.LoopGhost
import Derived.Deep.QuietTactic
import Derived.BigQuiet
import Derived.WideLaws
import Derived.Lib.Hide
import Derived.Outline
namespace Go.Proofs.Ytfbpjadigmkkkaa
open Go.RowKit


theorem isText_no {s : Str} {k : Nat} (hk : k < s.size) (h : textB s[k] = false) : isText s = false := by
  unfold isText
  rw [decide_eq_false (fun hall => by rw [hall k hk] at h; cases h), Bool.false_and]
theorem isText_end {s : Str} (h : ∀ j (hj : j < s.size), textB s[j] = true) : isText s = decide (s.size ≤ 60) := by
  unfold isText
  rw [decide_eq_true h, Bool.true_and]
theorem isName_no {s : Str} {k : Nat} (hk : k < s.size) (h : nameB s[k] = false) : isName s = false := by
  unfold isName
  rw [decide_eq_false (p := ∀ j (h : j < s.size), nameB s[j] = true) (fun hall => by rw [hall k hk] at h; cases h), Bool.and_false]

theorem letter_c (c : Int) (b : Bool) (hb : (decide (97 ≤ c) && decide (c ≤ 122)) = b) (w : World) {R : Ending → World → Prop} (h : R (.returned (.bool b)) w) : Calls Try.prog 52 #[.int .u8 c] w R := by
  subst hb
  by_cases h1 : 97 ≤ c
  · have h1' : decide (97 ≤ c) = true := decide_eq_true h1
    rw [h1', Bool.true_and] at h
    go_enter Try.func52, Try.ntmps52
    go_wp2
    exact h
  · have h1' : decide (97 ≤ c) = false := decide_eq_false h1
    rw [h1', Bool.false_and] at h
    go_enter Try.func52, Try.ntmps52
    go_wp2
    exact h

theorem text_c (s : Str) (hs : s.size ≤ 9223372036854775807) (w : World) {R : Ending → World → Prop} (h : R (.returned (.bool (isText s))) w) : Calls Try.prog 30 #[.string s] w R := by
  go_enter Try.func30, Try.ntmps30
  go_wp2
  go_loop [6] (fun i => ∃ k : Nat, k ≤ s.size ∧ i = .int .i64 k ∧ ∀ j (hj : j < s.size), j < k → textB s[j] = true) (fun i => s.size - (intOf i).toNat)
  case atStart => exact ⟨0, Nat.zero_le _, rfl, fun j _ h => absurd h (by omega)⟩
  case round =>
    obtain ⟨k, hk, rfl, hall0⟩ := hrel
    have hall := Lib.hid hall0
    clear hall0
    by_cases hlt : k < s.size
    · by_cases h1 : ((s[k].toNat : Int) < 32)
      · go_wp2
        rw [isText_no hlt (by simp [textB, h1])] at h; exact h
      · by_cases h2 : (126 < (s[k].toNat : Int))
        · go_wp2
          rw [isText_no hlt (by simp [textB, h2])] at h; exact h
        · go_wp2
          go_round
          case rel =>
            refine ⟨k + 1, by omega, by go_num, fun j hj hjk => ?_⟩
            rcases Nat.lt_or_ge j k with h3 | h3
            · exact hall.out j hj h3
            · obtain rfl : j = k := by omega
              simp [textB, h1, h2]
          case measure => simp [intOf]; omega
    · go_wp2
      rw [isText_end (fun j hj => hall.out j hj (by omega))] at h
      go_wp2
      rw [show decide ((s.size : Int) ≤ 60) = decide (s.size ≤ 60) from decide_eq_decide.2 (by omega)]
      exact h


theorem isName_head {s : Str} (h0 : 0 < s.size) (h : letterB s[0] = false) : isName s = false := by
  unfold isName
  rw [decide_eq_false (p := ∀ h : 0 < s.size, letterB s[0] = true) (fun hall => by rw [hall h0] at h; cases h), Bool.and_false, Bool.false_and]
theorem isName_end {s : Str} (h0 : 0 < s.size) (h12 : s.size ≤ 12) (hl : letterB s[0] = true) (h : ∀ j (hj : j < s.size), nameB s[j] = true) : isName s = true := by
  unfold isName
  rw [decide_eq_true h, decide_eq_true (p := ∀ h : 0 < s.size, letterB s[0] = true) (fun _ => hl), decide_eq_true h12, decide_eq_true (show 1 ≤ s.size by omega)]; rfl


theorem toList_nil {s : Str} (h : s.size = 0) : s.toList = [] := by
  rw [ByteArray.toList_eq]
  exact List.eq_nil_of_length_eq_zero (by rw [Array.length_toList]; exact h)
theorem toList_ne {s : Str} (h : ¬ s.size = 0) : ¬ s.toList = [] := by
  rw [ByteArray.toList_eq]
  intro e
  have := congrArg List.length e
  rw [Array.length_toList] at this
  exact h this

theorem name_c (s : Str) (hs : s.size ≤ 9223372036854775807) (w : World) {R : Ending → World → Prop} (h : R (.returned (.bool (isName s))) w) : Calls Try.prog 31 #[.string s] w R := by
  by_cases h0 : s.size = 0
  · rw [show isName s = false from by unfold isName; rw [decide_eq_false (show ¬ 1 ≤ s.size by omega)]; rfl] at h
    have e0 := toList_nil h0
    go_enter Try.func31, Try.ntmps31
    go_wp2
    exact h
  have e0 := toList_ne h0
  by_cases h12 : 12 < s.size
  · rw [show isName s = false from by unfold isName; rw [decide_eq_false (show ¬ s.size ≤ 12 by omega), Bool.and_false]; rfl] at h
    go_enter Try.func31, Try.ntmps31
    go_wp2
    exact h
  cases hl : letterB s[0]
  · rw [isName_head (by omega) hl] at h
    replace hl := Lib.hid hl
    go_enter Try.func31, Try.ntmps31
    go_wp2_with (go_at_call 52; refine letter_c _ _ hl.out _ ?_)
    exact h
  replace hl := Lib.hid hl
  have e1 : s.toList.isEmpty = false := by simpa using e0
  have e2 : decide (12 < (s.size : Int)) = false := decide_eq_false (by omega)
  go_enter Try.func31, Try.ntmps31
  go_wp2_with (go_at_call 52; refine letter_c _ _ hl.out _ ?_)
  go_loop [20] (fun i => ∃ k : Nat, k ≤ s.size ∧ i = .int .i64 k ∧ ∀ j (hj : j < s.size), j < k → nameB s[j] = true) (fun i => s.size - (intOf i).toNat)
  case atStart => exact ⟨0, Nat.zero_le _, rfl, fun j _ h => absurd h (by omega)⟩
  case round =>
    obtain ⟨k, hk, rfl, hall0⟩ := hrel
    have hall := Lib.hid hall0
    clear hall0
    by_cases hlt : k < s.size
    · have step : nameB s[k] = true → ∀ j (hj : j < s.size), j < k + 1 → nameB s[j] = true := by
        intro hn j hj hjk
        rcases Nat.lt_or_ge j k with h3 | h3
        · exact hall.out j hj h3
        · obtain rfl : j = k := by omega
          exact hn
      replace step := Lib.hid step
      cases hlk : letterB s[k]
      · have HL := Lib.hid hlk
        by_cases h1 : ((s[k].toNat : Int) < 48)
        · cases h3 : ((s[k].toNat : Int) == 45)
          · have h3' : ((s[k].toNat : Int) != 45) = true := by simp [bne, h3]
            go_wp2_with (go_at_call 52; refine letter_c _ _ HL.out _ ?_)
            rw [isName_no hlt (by simp [nameB, HL.out, h1]; simpa using h3)] at h; exact h
          · have h3' : ((s[k].toNat : Int) != 45) = false := by simp [bne, h3]
            go_wp2_with (go_at_call 52; refine letter_c _ _ HL.out _ ?_)
            go_round
            case rel => exact ⟨k + 1, by omega, by go_num, step.out (by simp [nameB]; right; simpa using h3)⟩
            case measure => simp [intOf]; omega
        · by_cases h2 : (57 < (s[k].toNat : Int))
          · cases h3 : ((s[k].toNat : Int) == 45)
            · have h3' : ((s[k].toNat : Int) != 45) = true := by simp [bne, h3]
              go_wp2_with (go_at_call 52; refine letter_c _ _ HL.out _ ?_)
              rw [isName_no hlt (by simp [nameB, HL.out, h2]; simpa using h3)] at h; exact h
            · exfalso
              have : (s[k].toNat : Int) = 45 := by simpa using h3
              omega
          · go_wp2_with (go_at_call 52; refine letter_c _ _ HL.out _ ?_)
            go_round
            case rel => exact ⟨k + 1, by omega, by go_num, step.out (by simp [nameB]; left; right; omega)⟩
            case measure => simp [intOf]; omega
      · have HL := Lib.hid hlk
        clear hlk
        go_wp2_with (go_at_call 52; refine letter_c _ _ HL.out _ ?_)
        go_round
        case rel => exact ⟨k + 1, by omega, by go_num, step.out (by simp [nameB, HL.out])⟩
        case measure => simp [intOf]; omega
    · go_wp2
      rw [isName_end (by omega) (by omega) hl.out (fun j hj => hall.out j hj (by omega))] at h
      exact h

theorem void_c (s : Str) (w : World) {R : Ending → World → Prop} (h : R (.returned (.bool (isVoid s))) w) : Calls Try.prog 33 #[.string s] w R := by
  unfold isVoid at h
  cases h1 : (s.toList == [98, 114]) <;> cases h2 : (s.toList == [104, 114]) <;> cases h3 : (s.toList == [105, 109, 103]) <;> cases h4 : (s.toList == [105, 110, 112, 117, 116]) <;>
    (rw [h1, h2, h3, h4] at h
     go_enter Try.func33, Try.ntmps33
     go_wp2
     exact h)
end Go.Proofs.Ytfbpjadigmkkkaa
