/- The number of an error. -/
import Derived.Test.YtfbpjadigmkkkaaUp
namespace Go.Proofs.Ytfbpjadigmkkkaa
open Go.RowKit

set_option maxHeartbeats 1000000 in
set_option maxRecDepth 100000 in
theorem code_c (n : Nat) (hn : n ≤ 13) (w : World) {R : Ending → World → Prop} (h : R (.returned (.int .i64 n)) w) : Calls Try.prog 8 #[errV n] w R := by
  by_cases h0 : n = 0
  · subst h0
    have e : errV 0 = .nilIface := rfl
    rw [e]
    clear e
    go_enter Try.func8, Try.ntmps8
    go_wp2
    exact h
  · have e : errV n = .iface 39 (.int .i64 n) := by unfold errV; rw [if_neg h0]
    rw [e]
    clear e
    have heq : ∀ (w : World) (a b : Int), (binOp .eql 25 (.iface 39 (.int .i64 a)) (.iface 39 (.int .i64 b))).run Try.prog w = .ok (.bool (a == b)) w := eq_code
    have h0' : 1 ≤ n := by omega
    clear h0
    go_enter Try.func8, Try.ntmps8
    go_wp2
    go_loopw [3] (fun i wr => ∃ k : Nat, 1 ≤ k ∧ k ≤ n ∧ i = .int .i64 k ∧ wr = w) (fun i _ => n - (intOf i).toNat)
    case atStart => exact ⟨1, Nat.le_refl _, h0', rfl, rfl⟩
    case round =>
      obtain ⟨k, hk1, hkn, rfl, rfl⟩ := hrel
      have t0 : decide ((k : Int) ≤ 13) = true := decide_eq_true (by omega)
      have t1 : decide (k ≤ 13) = true := decide_eq_true (by omega)
      by_cases hlt : k < n
      · have hne : ((n : Int) == (k : Int)) = false := by simp; omega
        go_wp2
        go_roundw
        case rel => exact ⟨k + 1, by omega, by omega, by go_num, by first | rfl | trivial⟩
        case measure => simp [intOf]; omega
      · obtain rfl : k = n := by omega
        go_wp2
        exact h
end Go.Proofs.Ytfbpjadigmkkkaa
