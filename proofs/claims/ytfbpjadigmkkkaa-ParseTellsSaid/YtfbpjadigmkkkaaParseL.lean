/- What the parser yields is small: plain Lean. -/
import Derived.Test.YtfbpjadigmkkkaaParseP
namespace Go.Proofs.Ytfbpjadigmkkkaa

def szA (a : Attr) : Nat := 4 + a.name.size + 6 * a.value.size
mutual
def szT : Tree → Nat
  | ⟨tag, text, key, attrs, kids⟩ => 5 + 2 * tag.size + 6 * text.size + key.size + (attrs.map szA).sum + szTs kids
def szTs : List Tree → Nat
  | [] => 0
  | t :: ts => szT t + szTs ts
end
theorem szTs_append : ∀ (a b : List Tree), szTs (a ++ b) = szTs a + szTs b
  | [], b => by simp [szTs]
  | t :: ts, b => by rw [List.cons_append, szTs, szTs, szTs_append ts b]; omega
theorem sum_mem {l : List Nat} {x : Nat} (h : x ∈ l) : x ≤ l.sum := by
  induction l with
  | nil => cases h
  | cons y l ih =>
    rw [List.sum_cons]
    rcases List.mem_cons.1 h with rfl | h
    · omega
    · have := ih h; omega
mutual
theorem small_of_sz : ∀ (N : Nat) (t : Tree), szT t ≤ N → t.small N
  | N, ⟨tag, text, key, attrs, kids⟩, h => by
    rw [szT] at h
    rw [Tree.small]
    refine ⟨by omega, by omega, by omega, fun a ha => ?_, smallTs_of_sz N kids (by omega)⟩
    have h1 := sum_mem (List.mem_map_of_mem (f := szA) ha)
    have h2 : szA a = 4 + a.name.size + 6 * a.value.size := rfl
    exact ⟨by omega, by omega⟩
theorem smallTs_of_sz : ∀ (N : Nat) (l : List Tree), szTs l ≤ N → smallTrees N l
  | N, [], h => by rw [smallTrees]; trivial
  | N, t :: ts, h => by
    rw [szTs] at h
    rw [smallTrees]
    exact ⟨small_of_sz N t (by omega), smallTs_of_sz N ts (by omega)⟩
end
theorem htmlA_le (a : Attr) : (htmlA a).length ≤ szA a := by
  have := escL_len a.value.data.toList
  simp only [htmlA, szA, List.length_append, List.length_cons, List.length_nil, data_len] at *
  omega
theorem htmlAs_le : ∀ l : List Attr, (l.flatMap htmlA).length ≤ (l.map szA).sum
  | [] => by simp
  | a :: l => by
    have := htmlA_le a
    have := htmlAs_le l
    rw [List.flatMap_cons, List.map_cons, List.sum_cons, List.length_append]
    omega
mutual
theorem htmlT_le : ∀ t : Tree, (htmlT t).length ≤ szT t
  | ⟨tag, text, key, attrs, kids⟩ => by
    rw [htmlT, szT]
    have h1 := escL_len text.data.toList
    have h2 := htmlAs_le attrs
    have h3 := htmlTs_le kids
    rw [data_len] at h1
    split
    · omega
    · split
      · simp only [List.length_append, List.length_cons, List.length_nil, data_len]; omega
      · simp only [List.length_append, List.length_cons, List.length_nil, data_len]; omega
theorem htmlTs_le : ∀ l : List Tree, (htmlTs l).length ≤ szTs l
  | [] => by rw [htmlTs, szTs]; exact Nat.le_refl _
  | t :: ts => by
    have := htmlT_le t
    have := htmlTs_le ts
    rw [htmlTs, szTs, List.length_append]
    omega
end

theorem unescN_le : ∀ (n : Nat) (l r : Bs), unescN n l = some r → r.length ≤ l.length
  | 0, l, r, h => by simp [unescN] at h; subst h; simp
  | n + 1, [], r, h => by simp [unescN] at h; subst h; simp
  | n + 1, c :: l, r, h => by
    rw [unescN] at h
    split at h
    · cases h
    · rename_i h0
      obtain ⟨q, hq, rfl⟩ := Option.map_eq_some_iff.1 h
      have h1 := unescN_le n _ q hq
      have h2 := firstL_le (c :: l)
      rw [List.length_drop] at h1
      simp only [List.length_cons] at *
      omega
theorem pValue_le (t : Bs) (bad : Bool) : (pValue t bad).1.length ≤ t.length := by
  unfold pValue
  cases h : unescL t with
  | none => simp
  | some r => simpa using unescN_le _ _ _ h
theorem trim_hit {l m : Bs} (h : Lib.hasPrefix l m = true) : (Lib.trimPrefix l m).length + m.length = l.length := by
  unfold Lib.trimPrefix
  rw [if_pos h]
  have := (List.isPrefixOf_iff_prefix.1 h).length_le
  rw [List.length_drop]; omega
theorem pAttr_sz (l : Bs) (bad : Bool) (h : Lib.hasPrefix l [32] = true) : szA (pAttr l bad).1 + 12 * (pAttr l bad).2.1.length ≤ 12 * l.length := by
  have h1 := trim_hit h
  have h2 := cut_le (Lib.trimPrefix l [32]) [61, 34]
  have h3 := cut_le (Lib.cut (Lib.trimPrefix l [32]) [61, 34]).2.1 [34]
  have h4 := pValue_le (Lib.cut (Lib.cut (Lib.trimPrefix l [32]) [61, 34]).2.1 [34]).1 (pUpto [34] (pUpto [61, 34] (pMark [32] l bad).1 (pMark [32] l bad).2).2.1 (pUpto [61, 34] (pMark [32] l bad).1 (pMark [32] l bad).2).2.2).2.2
  simp only [pAttr, pMark, pUpto, szA, str_size, List.length_cons, List.length_nil] at *
  omega
theorem pAttrs_sz : ∀ (n : Nat) (l : Bs) (bad : Bool), ((pAttrs n l bad).1.map szA).sum + 12 * (pAttrs n l bad).2.1.length ≤ 12 * l.length
  | 0, l, bad => by simp [pAttrs]
  | n + 1, l, bad => by
    rw [pAttrs]
    split
    · simp
    · rename_i h
      simp only [Bool.or_eq_true, Bool.not_eq_true', not_or, Bool.not_eq_false] at h
      have h1 := pAttr_sz l bad h.2
      have h2 := pAttrs_sz n (pAttr l bad).2.1 (pAttr l bad).2.2
      simp only [List.map_cons, List.sum_cons]
      omega
theorem pElemW_sz {nodes : Nat → Bs → Bool → List Tree × Bs × Bool} (hn : ∀ d l bad, szTs (nodes d l bad).1 + 12 * (nodes d l bad).2.1.length ≤ 12 * l.length) (d : Nat) (r : Bs) (bad : Bool) :
    szT (pElemW nodes d (60 :: r) bad).1 + 12 * (pElemW nodes d (60 :: r) bad).2.1.length ≤ 12 * (60 :: r).length := by
  have h0 : Lib.trimPrefix (60 :: r) [60] = r := by simp [Lib.trimPrefix, Lib.hasPrefix]
  have h1 := pAhead_le [32, 62] r
  have h2 := pAttrs_sz (pAhead [32, 62] r).2.length (pAhead [32, 62] r).2 ((pMark [60] (60 :: r) (bad || decide (200 ≤ d))).2)
  simp only [pElemW, pMark, h0] at h2 ⊢
  generalize pAttrs _ _ _ = q at h2 ⊢
  have h3 := trim_le q.2.1 [62]
  split
  · simp only [szT, szTs, str_size, List.length_cons, List.length_nil]; omega
  · have h4 := hn (d + 1) (Lib.trimPrefix q.2.1 [62]) (q.2.2 || !Lib.hasPrefix q.2.1 [62])
    generalize nodes (d + 1) _ _ = z at h4 ⊢
    have h5 := trim_le z.2.1 ([60, 47] ++ (pAhead [32, 62] r).1 ++ [62])
    simp only [szT, str_size, List.length_cons, List.length_nil]
    omega
theorem pNodes_sz : ∀ (n d : Nat) (l : Bs) (bad : Bool), szTs (pNodes n d l bad).1 + 12 * (pNodes n d l bad).2.1.length ≤ 12 * l.length
  | 0, d, l, bad => by simp [pNodes, szTs]
  | n + 1, d, l, bad => by
    rw [pNodes]
    split
    · simp [szTs]
    rename_i hc
    split
    · rename_i h
      obtain ⟨r, rfl⟩ := head_prefix h
      have h1 := pElemW_sz (nodes := pNodes n) (fun d l bad => pNodes_sz n d l bad) d r bad
      have h2 := pNodes_sz n d (pElemW (pNodes n) d (60 :: r) bad).2.1 (pElemW (pNodes n) d (60 :: r) bad).2.2
      simp only [szTs]
      omega
    · rename_i h
      have h0 : l ≠ [] := by
        intro e; subst e; simp at hc
      have h1 := pAhead_le [60] l
      have h3 := pAhead_lt h0 h
      have h4 := pValue_le (pAhead [60] l).1 bad
      have h2 := pNodes_sz n d (pAhead [60] l).2 (pValue (pAhead [60] l).1 bad).2
      simp only [szTs, szT, str_size, List.length_nil, List.map_nil, List.sum_nil]
      omega

/-- parse.Get: the trees, and an error's number. -/
def pOk (l : Bs) : Bool :=
  !((pNodes l.length 0 l false).2.2 || (!(pNodes l.length 0 l false).2.1.isEmpty || ((pNodes l.length 0 l false).1.any (fun t => !mayTree t) || !((pNodes l.length 0 l false).1.flatMap htmlT == l))))
def pGet (l : Bs) : List Tree × Nat :=
  if 6000 < l.length then ([], 13) else if pOk l then ((pNodes l.length 0 l false).1, 0) else ([], 7)
theorem pGet_put {l : Bs} (h : (pGet l).2 = 0) : (pGet l).1.flatMap htmlT = l := by
  unfold pGet at h ⊢
  split at h
  · cases h
  split at h
  · rename_i h1 h2
    rw [if_neg h1, if_pos h2]
    unfold pOk at h2
    simp only [Bool.not_eq_true', Bool.or_eq_false_iff, Bool.not_eq_false', beq_iff_eq] at h2
    exact h2.2.2.2
  · cases h
end Go.Proofs.Ytfbpjadigmkkkaa
