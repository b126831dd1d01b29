/- Where one of some signs first stands: parse.anyAt (by runes), ref08.until (by bytes). -/
import Derived.Test.YtfbpjadigmkkkaaManyb
import Derived.Lib.OthersKept
namespace Go.Proofs.Ytfbpjadigmkkkaa
open Go.RowKit

theorem get_lt (s : Str) (j : Nat) (h : j < s.size) : s.get! j = s[j] := by
  have := get_at s j h
  rwa [Nat.add_zero] at this
theorem decode_width (s : Str) (pos : Nat) (h : pos < s.size) (ha : 128 ≤ (s[pos]'h).toNat) :
    pos + (Utf8.decode s pos).2 ≤ s.size ∧ ∀ j (hj : j < s.size), pos ≤ j → j < pos + (Utf8.decode s pos).2 → 128 ≤ s[j].toNat := by
  have hn : ¬ (s[pos]'h).toNat < 128 := by omega
  have hc : ∀ k, (decide (pos + k < s.size) && (s.get! (pos + k)).toNat / 64 == 2) = true → ∃ hk : pos + k < s.size, 128 ≤ s[pos + k].toNat := by
    intro k hk
    simp only [Bool.and_eq_true, decide_eq_true_eq, beq_iff_eq] at hk
    obtain ⟨h1, h2⟩ := hk
    rw [get_lt s _ h1] at h2
    exact ⟨h1, by omega⟩
  have one : pos + 1 ≤ s.size ∧ ∀ j (hj : j < s.size), pos ≤ j → j < pos + 1 → 128 ≤ s[j].toNat := by
    refine ⟨by omega, fun j hj h1 h2 => ?_⟩
    obtain rfl : j = pos := by omega
    exact ha
  simp only [Utf8.decode, get_at s pos h, hn, if_false]
  split
  · rename_i h1
    rw [Bool.and_eq_true] at h1
    obtain ⟨k1, g1⟩ := hc 1 h1.2
    split
    · refine ⟨by simp; omega, fun j hj a b => ?_⟩
      simp only at b
      rcases (by omega : j = pos ∨ j = pos + 1) with rfl | rfl
      · exact ha
      · exact g1
    · exact one
  split
  · rename_i h1
    simp only [Bool.and_eq_true] at h1
    obtain ⟨k1, g1⟩ := hc 1 (by simpa using h1.1.2)
    obtain ⟨k2, g2⟩ := hc 2 (by simpa using h1.2)
    split
    · refine ⟨by simp; omega, fun j hj a b => ?_⟩
      simp only at b
      rcases (by omega : j = pos ∨ j = pos + 1 ∨ j = pos + 2) with rfl | rfl | rfl
      · exact ha
      · exact g1
      · exact g2
    · exact one
  split
  · rename_i h1
    simp only [Bool.and_eq_true] at h1
    obtain ⟨k1, g1⟩ := hc 1 (by simpa using h1.1.1.2)
    obtain ⟨k2, g2⟩ := hc 2 (by simpa using h1.1.2)
    obtain ⟨k3, g3⟩ := hc 3 (by simpa using h1.2)
    split
    · refine ⟨by simp; omega, fun j hj a b => ?_⟩
      simp only at b
      rcases (by omega : j = pos ∨ j = pos + 1 ∨ j = pos + 2 ∨ j = pos + 3) with rfl | rfl | rfl | rfl
      · exact ha
      · exact g1
      · exact g2
      · exact g3
    · exact one
  · exact one

/-- How many bytes stand ahead of the first sign; all, if none does. -/
def untilL (signs l : List UInt8) : Nat := l.findIdx (fun c => signs.contains c)
theorem untilL_at {signs : Str} {s : Str} {k : Nat} (hk : k < s.size) (h : ∀ j (hj : j < s.size), j < k → signs.data.toList.contains s[j] = false) (hp : signs.data.toList.contains s[k] = true) : untilL signs.data.toList s.data.toList = k := by
  unfold untilL
  rw [List.findIdx_eq (by rw [data_len]; exact hk)]
  exact ⟨hp, fun j hj => h j (by omega) hj⟩
theorem untilL_end {signs : Str} {s : Str} (h : ∀ j (hj : j < s.size), signs.data.toList.contains s[j] = false) : untilL signs.data.toList s.data.toList = s.size := by
  unfold untilL
  rw [← data_len, List.findIdx_eq_length]
  intro x hx
  obtain ⟨j, hj, rfl⟩ := List.getElem_of_mem hx
  exact h j (by rw [data_len] at hj; exact hj)
theorem untilL_le (signs l : List UInt8) : untilL signs l ≤ l.length := List.findIdx_le_length

theorem contains_at {signs : Str} {c : UInt8} {q : Nat} (hq : q < signs.size) (h : c = signs[q]) : signs.data.toList.contains c = true := by
  rw [List.contains_iff_mem, h]
  exact List.getElem_mem (by rw [data_len]; exact hq : q < signs.data.toList.length)
theorem contains_no {signs : Str} {c : UInt8} (h : ∀ j (hj : j < signs.size), c ≠ signs[j]) : signs.data.toList.contains c = false := by
  rw [Bool.eq_false_iff]
  intro hh
  rw [List.contains_iff_mem] at hh
  obtain ⟨j, hj, e⟩ := List.getElem_of_mem hh
  exact h j (by rw [data_len] at hj; exact hj) e.symm

set_option maxHeartbeats 2000000 in
set_option maxRecDepth 100000 in
theorem until_c (s signs : Str) (hs : s.size ≤ 20000000000000) (hg : signs.size ≤ 1000) (w : World) {R : Ending → World → Prop} (h : ∀ w', Step Nil0 w w' → R (.returned (.int .i64 (untilL signs.data.toList s.data.toList : Nat))) w') :
    Calls Try.prog 35 #[.string s, .string signs] w R := by
  replace h := Lib.hid h
  go_enter Try.func35, Try.ntmps35
  go_wp2
  go_loopw [5] (fun i wr => ∃ k : Nat, k ≤ s.size ∧ i = .int .i64 k ∧ Step Nil0 w wr ∧ ∀ j (hj : j < s.size), j < k → signs.data.toList.contains s[j] = false) (fun i _ => s.size - (intOf i).toNat)
  case atStart => exact ⟨0, Nat.zero_le _, rfl, Step.refl _ _, fun j _ h => absurd h (by omega)⟩
  case round =>
    obtain ⟨k, hk, rfl, hst, hall⟩ := hrel
    replace hall := Lib.hid hall
    by_cases hlt : k < s.size
    · go_wp2
      go_loopw [6] (fun i wr' => ∃ q : Nat, q ≤ signs.size ∧ i = .int .i64 q ∧ Step Nil0 w wr' ∧ ∀ j (hj : j < signs.size), j < q → s[k] ≠ signs[j]) (fun i _ => signs.size - (intOf i).toNat)
      case atStart => exact ⟨0, Nat.zero_le _, rfl, hst, fun j _ h => absurd h (by omega)⟩
      case round =>
        obtain ⟨q, hq, rfl, hst', hne⟩ := hrel
        replace hne := Lib.hid hne
        by_cases hqk : q < signs.size
        · by_cases he : s[k] = signs[q]
          · have heb : ((s[k].toNat : Int) == (signs[q].toNat : Int)) = true := by rw [he]; simp
            have hno := h.out
            rw [untilL_at hlt hall.out (contains_at hqk he)] at hno
            replace hno := Lib.hid hno
            replace he := Lib.hid he
            go_wp2
            go_quiet (fail)
            go_wp2
            exact hno.out _ (hst'.drewN _)
          · have heb : ((s[k].toNat : Int) == (signs[q].toNat : Int)) = false := by
              simp only [beq_eq_false_iff_ne, ne_eq, Int.natCast_inj]
              exact fun e => he (UInt8.toNat_inj.1 e)
            replace he := Lib.hid he
            go_wp2
            go_quiet (fail)
            go_wp2
            go_roundw
            case rel =>
              refine ⟨q + 1, by omega, by go_num, hst'.drewN _, fun j hj hjk => ?_⟩
              rcases Nat.lt_or_ge j q with h4 | h4
              · exact hne.out j hj h4
              · obtain rfl : j = q := by omega
                exact he.out
            case measure => simp [intOf]; omega
        · go_wp2
          go_roundw
          case rel =>
            refine ⟨k + 1, by omega, by go_num, hst', fun j hj hjk => ?_⟩
            rcases Nat.lt_or_ge j k with h4 | h4
            · exact hall.out j hj h4
            · obtain rfl : j = k := by omega
              exact contains_no (fun j hj => hne.out j hj (by omega))
          case measure => simp [intOf]; omega
    · have hno := h.out
      rw [untilL_end (fun j hj => hall.out j hj (by omega))] at hno
      replace hno := Lib.hid hno
      go_wp2
      exact hno.out _ hst
end Go.Proofs.Ytfbpjadigmkkkaa
