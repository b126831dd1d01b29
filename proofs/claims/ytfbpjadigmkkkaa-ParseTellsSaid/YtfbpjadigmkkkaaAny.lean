/- parse.anyAt: a range over a string inside a range over a string. -/
import Derived.Test.YtfbpjadigmkkkaaScan
namespace Go.Proofs.Ytfbpjadigmkkkaa
open Go.RowKit

theorem next_rune (s : Str) (pos : Nat) (h : pos < s.size) : ∃ r wd, Utf8.decode s pos = (r, wd) ∧ 1 ≤ wd ∧ pos + wd ≤ s.size ∧ (∀ c : UInt8, c.toNat < 128 → (r = c.toNat ↔ s[pos] = c)) ∧
    (∀ j (hj : j < s.size), pos < j → j < pos + wd → 128 ≤ s[j].toNat) ∧ r ≤ 2147483647 := by
  by_cases ha : s[pos].toNat < 128
  · refine ⟨_, _, decode_ascii s pos h ha, by omega, by omega, fun c hc => ⟨fun e => UInt8.toNat_inj.1 e, fun e => by rw [e]⟩, fun j hj a b => by omega, by omega⟩
  · have h1 := decode_high s pos h (by omega)
    have h2 := decode_width s pos h (by omega)
    refine ⟨(Utf8.decode s pos).1, (Utf8.decode s pos).2, rfl, h1.2, h2.1, fun c hc => ⟨fun e => ?_, fun e => ?_⟩, fun j hj a b => h2.2 j hj (by omega) b, decode_le s pos⟩
    · omega
    · rw [e] at ha; omega

theorem Step.iterAt {M : Nat → Prop} {w w1 : World} (h : Step M w w1) {k : Nat} (hk : w.heap.size ≤ k) (s : Str) (p : Nat) : Step M w (w1.iterAt k s p) :=
  ⟨h.os, h.tape, h.output, by rw [Lib.iterAt_size]; exact h.size, fun b hb hn => (Lib.iterAt_other w1 k b s p (by omega)).trans (h.block b hb hn)⟩

set_option maxHeartbeats 2000000 in
set_option maxRecDepth 100000 in
theorem anyAt_c (s signs : Str) (hs : s.size ≤ 20000000000000) (hg : signs.size ≤ 1000) (hsg : ∀ j (hj : j < signs.size), signs[j].toNat < 128) (w : World) {R : Ending → World → Prop}
    (h : ∀ w', Step Nil0 w w' → R (.returned (.int .i64 (if untilL signs.data.toList s.data.toList = s.size then -1 else (untilL signs.data.toList s.data.toList : Nat)))) w') :
    Calls Try.prog 51 #[.string s, .string signs] w R := by
  replace h := Lib.hid h
  replace hsg := Lib.hid hsg
  have hit0 := World.iter_heap w s 0
  go_enter Try.func51, Try.ntmps51
  go_wp2
  go_loopw [5] (fun _ wr => ∃ pos : Nat, pos ≤ s.size ∧ wr.heap[w.heap.size]? = some (.stringIter s pos) ∧ Step Nil0 w wr ∧ ∀ j (hj : j < s.size), j < pos → signs.data.toList.contains s[j] = false) (fun _ wr => s.size - wr.iterPos w.heap.size)
  case atStart => exact ⟨0, Nat.zero_le _, hit0, (Step.refl _ _).alloc _, fun j _ h => absurd h (by omega)⟩
  case round =>
    obtain ⟨pos, hk, hit, hst, hall⟩ := hrel
    replace hall := Lib.hid hall
    have hlt0 := lt_of_heap hit
    have hip : wr.iterPos w.heap.size = pos := by simp [World.iterPos, hit]
    replace hip := Lib.hid hip
    by_cases hlt : pos < s.size
    · obtain ⟨r, wd, hdec, hw1, hw2, hr, hhi, hrm⟩ := next_rune s pos hlt
      have hnx := fun ty => Lib.run_next_any_at (P := Try.prog) wr w.heap.size s pos ty hit hlt
      rw [hdec] at hnx
      have hit2 := Lib.iterAt_heap wr w.heap.size s pos (pos + wd) hit
      have hst2 := hst.iterAt (Nat.le_refl _) s (pos + wd)
      have hsz2 : (wr.iterAt w.heap.size s (pos + wd)).heap.size = wr.heap.size := Lib.iterAt_size _ _ _ _
      replace hr := Lib.hid hr
      replace hhi := Lib.hid hhi
      replace hdec := Lib.hid hdec
      simp only at hnx
      generalize hW : wr.iterAt w.heap.size s (pos + wd) = W at hnx hit2 hst2 hsz2
      replace hW := Lib.hid hW
      have hitb := World.iter_heap W signs 0
      have hita : (W.iter signs 0).heap[w.heap.size]? = some (.stringIter s (pos + wd)) := by rw [← hit2]; exact Below.heap_alloc _ _ _ (by omega)
      have hst3 : Step Nil0 w (W.iter signs 0) := hst2.alloc _
      have hWge : w.heap.size < W.heap.size := by omega
      replace hsz2 := Lib.hid hsz2
      go_wp2
      go_loopw [8] (fun _ wr' => ∃ q : Nat, q ≤ signs.size ∧ wr'.heap[w.heap.size]? = some (.stringIter s (pos + wd)) ∧ wr'.heap[W.heap.size]? = some (.stringIter signs q) ∧ Step Nil0 w wr' ∧
        ∀ j (hj : j < signs.size), j < q → s[pos] ≠ signs[j]) (fun _ wr' => signs.size - wr'.iterPos W.heap.size)
      case atStart => exact ⟨0, Nat.zero_le _, hita, hitb, hst3, fun j _ h => absurd h (by omega)⟩
      case round =>
        obtain ⟨q, hq, hi1, hi2, hst', hne⟩ := hrel
        replace hne := Lib.hid hne
        have hip2 : wr.iterPos W.heap.size = q := by simp [World.iterPos, hi2]
        replace hip2 := Lib.hid hip2
        by_cases hqk : q < signs.size
        · have hnx2 := fun ty => Lib.run_next_ascii_at (P := Try.prog) wr W.heap.size signs q ty hi2 hqk (hsg.out q hqk)
          have hi3 := Lib.iterAt_heap wr W.heap.size signs q (q + 1) hi2
          have hi4 : (wr.iterAt W.heap.size signs (q + 1)).heap[w.heap.size]? = some (.stringIter s (pos + wd)) := (Lib.iterAt_other wr W.heap.size w.heap.size signs _ (by omega)).trans hi1
          have hst4 := hst'.iterAt (k := W.heap.size) (by omega) signs (q + 1)
          generalize hW2 : wr.iterAt W.heap.size signs (q + 1) = W2 at hnx2 hi3 hi4 hst4
          replace hW2 := Lib.hid hW2
          by_cases he : s[pos] = signs[q]
          · have heb : ((r : Int) == (signs[q].toNat : Int)) = true := by rw [(hr.out _ (hsg.out q hqk)).2 he]; simp
            have hno := h.out
            have hu := untilL_at hlt hall.out (contains_at hqk he)
            rw [hu, if_neg (by omega)] at hno
            replace hno := Lib.hid hno
            replace he := Lib.hid he
            replace hu := Lib.hid hu
            go_wp2
            exact hno.out _ hst4
          · have heb : ((r : Int) == (signs[q].toNat : Int)) = false := by
              simp only [beq_eq_false_iff_ne, ne_eq, Int.natCast_inj]
              exact fun e => he ((hr.out _ (hsg.out q hqk)).1 e)
            replace he := Lib.hid he
            go_wp2
            go_roundw
            case rel =>
              refine ⟨q + 1, by omega, hi4, hi3, hst4, fun j hj hjk => ?_⟩
              rcases Nat.lt_or_ge j q with h4 | h4
              · exact hne.out j hj h4
              · obtain rfl : j = q := by omega
                exact he.out
            case measure =>
              rw [hip2.out]
              simp only [World.iterPos, hi3]
              omega
        · have hnx2 := fun ty => Lib.run_next_end_at (P := Try.prog) wr W.heap.size signs q ty hi2 hqk
          go_wp2
          go_roundw
          case rel =>
            refine ⟨pos + wd, by omega, hi1, hst', fun j hj hjk => ?_⟩
            rcases Nat.lt_or_ge j pos with h4 | h4
            · exact hall.out j hj h4
            · rcases (by omega : j = pos ∨ pos < j) with rfl | h5
              · exact contains_no (fun j hj => hne.out j hj (by omega))
              · refine contains_no (fun i hi e => ?_)
                have h6 := hhi.out j hj h5 hjk
                have h7 := hsg.out i hi
                rw [e] at h6
                omega
          case measure =>
            rw [hip.out]
            simp only [World.iterPos, hi1]
            omega
    · have hnx := fun ty => Lib.run_next_end_at (P := Try.prog) wr w.heap.size s pos ty hit hlt
      have hno := h.out
      rw [untilL_end (fun j hj => hall.out j hj (by omega)), if_pos rfl] at hno
      replace hno := Lib.hid hno
      go_wp2
      exact hno.out _ hst
end Go.Proofs.Ytfbpjadigmkkkaa
