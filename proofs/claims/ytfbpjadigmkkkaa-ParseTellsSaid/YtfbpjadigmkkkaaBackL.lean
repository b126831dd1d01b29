/- Few nodes: little HTML. -/
import Derived.Test.YtfbpjadigmkkkaaParseL
import Derived.Test.YtfbpjadigmkkkaaManyb
namespace Go.Proofs.Ytfbpjadigmkkkaa

theorem few_sum {l : List Attr} (h : (fewI l == 0) = false) : (l.map szA).sum ≤ 14080 := by
  unfold fewI at h
  have hc : ((l.take 20).all shortA && decide (l.length ≤ 20)) = true := by
    cases hb : ((l.take 20).all shortA && decide (l.length ≤ 20)) with
    | true => rfl
    | false => rw [hb] at h; simp at h
  rw [Bool.and_eq_true, decide_eq_true_eq] at hc
  obtain ⟨h1, h2⟩ := hc
  rw [List.take_of_length_le h2, List.all_eq_true] at h1
  have key : ∀ q : List Attr, (∀ x ∈ q, shortA x = true) → (q.map szA).sum ≤ 704 * q.length := by
    intro q
    induction q with
    | nil => simp
    | cons a q ih =>
      intro hq
      have h3 := ih (fun x hx => hq x (List.mem_cons_of_mem _ hx))
      have h4 := hq a List.mem_cons_self
      have h5 : szA a = 4 + a.name.size + 6 * a.value.size := rfl
      simp only [shortA, Bool.and_eq_true, Bool.not_eq_true', decide_eq_false_iff_not] at h4
      rw [List.map_cons, List.sum_cons, List.length_cons]
      omega
  have := key l h1
  omega
mutual
theorem many_sz : ∀ (t : Tree) (m : Int), 0 ≤ m → manyT t m ≤ m → (szT t : Int) ≤ 15000 * manyT t m
  | ⟨tag, text, key, attrs, kids⟩, m, hm, h => by
    rw [manyT] at h ⊢
    split at h
    · omega
    · rename_i hl
      rw [if_neg hl]
      have h1 := manys_sz kids 1 m (by omega) (by omega) h
      simp only [longT, Bool.or_eq_true, decide_eq_true_eq, not_or] at hl
      obtain ⟨a1, a2, a3, a4⟩ := hl
      have h2 := few_sum (l := attrs) (by simpa using a4)
      rw [szT]
      omega
theorem manys_sz : ∀ (l : List Tree) (n m : Int), 0 ≤ n → n ≤ m + 1 → manyTs l n m ≤ m → (szTs l : Int) + 15000 * n ≤ 15000 * manyTs l n m
  | [], n, m, h0, h1, h => by rw [manyTs, szTs]; omega
  | t :: ts, n, m, h0, h1, h => by
    rw [manyTs] at h ⊢
    split at h
    · rename_i hn
      rw [if_pos hn]
      have h2 := manyT_le t (m - n) (by omega)
      have h3 := manyTs_le ts (n + manyT t (m - n)) m (by omega)
      have h4 := manys_sz ts (n + manyT t (m - n)) m (by omega) (by omega) h
      have h5 := many_sz t (m - n) (by omega) (by omega)
      rw [szTs]
      omega
    · omega
end
theorem many_html {l : List Tree} (h : manyTs l 0 50 ≤ 50) : (l.flatMap htmlT).length ≤ 750000 := by
  have h1 := manys_sz l 0 50 (by omega) (by omega) h
  have h2 := htmlTs_le l
  rw [htmlTs_flat] at h2
  omega
theorem pGet_code (l : Bs) : (pGet l).2 = 0 ∨ ((pGet l).2 ≠ 0 ∧ (pGet l).2 ≤ 13 ∧ (pGet l).1 = []) := by
  unfold pGet
  split
  · exact .inr ⟨by decide, by decide, rfl⟩
  split
  · exact .inl rfl
  · exact .inr ⟨by decide, by decide, rfl⟩
end Go.Proofs.Ytfbpjadigmkkkaa
