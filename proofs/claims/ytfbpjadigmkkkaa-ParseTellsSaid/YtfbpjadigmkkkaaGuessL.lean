/- The reference's reading: what is left is no longer; fuel; how great its trees are. -/
import Derived.Test.YtfbpjadigmkkkaaGuessP
namespace Go.Proofs.Ytfbpjadigmkkkaa

theorem gAttrs_sz : ∀ (n : Nat) (s : Bs), ((gAttrs n s).1.map szA).sum + 12 * (gAttrs n s).2.length ≤ 12 * s.length
  | 0, s => by simp [gAttrs]
  | n + 1, s => by
    rw [gAttrs]
    split
    · rename_i h32
      have h0 : s ≠ [] := by
        intro e; subst e; simp at h32
      have hu := untilL_pos (signs := [61]) h0 (by rw [h32]; rfl)
      have hul := untilL_le [61] s
      dsimp only
      split
      · simp
      rename_i h2
      have hv := pValue_le (((s.drop (untilL [61] s)).drop 2).take (untilL [34] ((s.drop (untilL [61] s)).drop 2))) false
      have hm := untilL_le [34] ((s.drop (untilL [61] s)).drop 2)
      simp only [pValue] at hv
      rw [List.length_take] at hv
      simp only [List.length_drop] at h2 hm hv ⊢
      split
      · simp only [List.map_cons, List.map_nil, List.sum_cons, List.sum_nil, szA, str_size, List.length_drop, List.length_take, List.length_nil]
        omega
      · have ih := gAttrs_sz n (((s.drop (untilL [61] s)).drop 2).drop (untilL [34] ((s.drop (untilL [61] s)).drop 2) + 1))
        simp only [List.length_drop] at ih
        simp only [List.map_cons, List.sum_cons, szA, str_size, List.length_drop, List.length_take]
        omega
    · simp
theorem gAttrs_le (n : Nat) (s : Bs) : (gAttrs n s).2.length ≤ s.length := by
  have := gAttrs_sz n s
  omega
theorem gElemW_sz {guess : Nat → Bs → List Tree × Bs} (hn : ∀ d s, szTs (guess d s).1 + 12 * (guess d s).2.length ≤ 12 * s.length) (d : Nat) (r : Bs) :
    szT (gElemW guess d (60 :: r)).1 + 12 * (gElemW guess d (60 :: r)).2.length ≤ 12 * (60 :: r).length := by
  have hu := untilL_pos (signs := [32, 62]) (l := 60 :: r) (by simp) rfl
  have hul := untilL_le [32, 62] (60 :: r)
  have ha := gAttrs_sz ((60 :: r).drop (untilL [32, 62] (60 :: r))).length ((60 :: r).drop (untilL [32, 62] (60 :: r)))
  unfold gElemW
  dsimp only
  generalize gAttrs _ _ = q at ha ⊢
  obtain ⟨as_, l⟩ := q
  dsimp only at ha ⊢
  rw [List.length_drop] at ha
  split
  · simp only [szT, szTs, str_size, List.length_drop, List.length_take, List.length_cons, List.length_nil] at *; omega
  split
  · simp only [szT, szTs, str_size, List.length_drop, List.length_take, List.length_cons, List.length_nil] at *; omega
  · have h4 := hn (d + 1) (l.drop 1)
    generalize guess (d + 1) (l.drop 1) = z at h4 ⊢
    simp only [szT, str_size, List.length_drop, List.length_take, List.length_cons, List.length_nil] at *
    omega
theorem gNodes_sz : ∀ (n d : Nat) (s : Bs), szTs (gNodes n d s).1 + 12 * (gNodes n d s).2.length ≤ 12 * s.length
  | 0, d, s => by simp [gNodes, szTs]
  | n + 1, d, s => by
    rw [gNodes]
    split
    · simp [szTs]
    rename_i hc
    have h0 : s ≠ [] := by
      intro e; subst e; simp at hc
    split
    · rename_i h6
      have hu := untilL_pos (signs := [60]) h0 (by cases s with | nil => exact absurd rfl h0 | cons c r => simpa using h6)
      have hul := untilL_le [60] s
      have hv := pValue_le (s.take (untilL [60] s)) false
      simp only [pValue, List.length_take] at hv
      have ih := gNodes_sz n d (s.drop (untilL [60] s))
      rw [List.length_drop] at ih
      simp only [szTs, szT, str_size, List.length_nil, List.map_nil, List.sum_nil]
      omega
    split
    · simp [szTs]
    · rename_i h6 _
      obtain ⟨r, rfl⟩ := head_prefix (by simpa using h6)
      have h1 := gElemW_sz (guess := gNodes n) (fun d s => gNodes_sz n d s) d r
      have ih := gNodes_sz n d (gElemW (gNodes n) d (60 :: r)).2
      simp only [szTs]
      omega
theorem szT_pos (t : Tree) : 5 ≤ szT t := by
  obtain ⟨tag, text, key, attrs, kids⟩ := t
  rw [szT]; omega
theorem gElemW_lt (n d : Nat) (r : Bs) : (gElemW (gNodes n) d (60 :: r)).2.length < (60 :: r).length := by
  have h1 := gElemW_sz (guess := gNodes n) (fun d s => gNodes_sz n d s) d r
  have := szT_pos (gElemW (gNodes n) d (60 :: r)).1
  omega
theorem gNodes_le (n d : Nat) (s : Bs) : (gNodes n d s).2.length ≤ s.length := by
  have := gNodes_sz n d s
  omega
theorem gElemW_congr {g1 g2 : Nat → Bs → List Tree × Bs} {d : Nat} {r : Bs} (h : ∀ d s, s.length ≤ r.length → g1 d s = g2 d s) : gElemW g1 d (60 :: r) = gElemW g2 d (60 :: r) := by
  have hu := untilL_pos (signs := [32, 62]) (l := 60 :: r) (by simp) rfl
  have ha := gAttrs_le ((60 :: r).drop (untilL [32, 62] (60 :: r))).length ((60 :: r).drop (untilL [32, 62] (60 :: r)))
  unfold gElemW
  dsimp only
  generalize gAttrs _ _ = q at ha ⊢
  rw [List.length_drop, List.length_cons] at ha
  rw [h (d + 1) (q.2.drop 1) (by rw [List.length_drop]; omega)]
theorem gNodes_more : ∀ (n m d : Nat) (s : Bs), s.length ≤ n → s.length ≤ m → gNodes n d s = gNodes m d s := by
  intro n
  induction n with
  | zero =>
    intro m d s hn _
    obtain rfl : s = [] := List.eq_nil_of_length_eq_zero (by omega)
    cases m with
    | zero => rfl
    | succ m => rw [gNodes, gNodes]; simp
  | succ n ih =>
    intro m d s hn hm
    cases m with
    | zero =>
      obtain rfl : s = [] := List.eq_nil_of_length_eq_zero (by omega)
      rw [gNodes, gNodes]; simp
    | succ m =>
      rw [gNodes, gNodes]
      split
      · rfl
      rename_i hc
      have h0 : s ≠ [] := by
        intro e; subst e; simp at hc
      split
      · rename_i h6
        have hu := untilL_pos (signs := [60]) h0 (by cases s with | nil => exact absurd rfl h0 | cons c r => simpa using h6)
        have hpos : 0 < s.length := List.length_pos_iff.2 h0
        rw [ih m d _ (by rw [List.length_drop]; omega) (by rw [List.length_drop]; omega)]
      split
      · rfl
      · rename_i h6 _
        obtain ⟨r, rfl⟩ := head_prefix (by simpa using h6)
        simp only [List.length_cons] at hn hm
        have e := gElemW_congr (g1 := gNodes n) (g2 := gNodes m) (d := d) (r := r) (fun d s hs => ih m d s (by omega) (by omega))
        have h1 := gElemW_lt m d r
        rw [List.length_cons] at h1
        dsimp only
        rw [e, ih m d _ (by omega) (by omega)]
end Go.Proofs.Ytfbpjadigmkkkaa
