/- The reference's reading, as a plain function over bytes; what both readings have in common. -/
import Derived.Test.YtfbpjadigmkkkaaParseL
namespace Go.Proofs.Ytfbpjadigmkkkaa

def gAttrs : Nat → Bs → List Attr × Bs
  | 0, s => ([], s)
  | n + 1, s =>
    if s.headD 0 = 32 then
      let s1 := s.drop (untilL [61] s)
      if s1.length < 2 then ([], [])
      else
        let s2 := s1.drop 2
        let a : Attr := ⟨str ((s.take (untilL [61] s)).drop 1), str ((unescL (s2.take (untilL [34] s2))).getD []), false⟩
        if untilL [34] s2 = s2.length then ([a], [])
        else
          let q := gAttrs n (s2.drop (untilL [34] s2 + 1))
          (a :: q.1, q.2)
    else ([], s)
def gElemW (guess : Nat → Bs → List Tree × Bs) (d : Nat) (s : Bs) : Tree × Bs :=
  let tag := (s.take (untilL [32, 62] s)).drop 1
  let r := gAttrs (s.drop (untilL [32, 62] s)).length (s.drop (untilL [32, 62] s))
  if r.2.isEmpty then (⟨str tag, str [], str [], r.1, []⟩, [])
  else if isVoid (str tag) then (⟨str tag, str [], str [], r.1, []⟩, r.2.drop 1)
  else
    let q := guess (d + 1) (r.2.drop 1)
    (⟨str tag, str [], str [], r.1, q.1⟩, q.2.drop (tag.length + 3))
def gNodes : Nat → Nat → Bs → List Tree × Bs
  | 0, _, s => ([], s)
  | n + 1, d, s =>
    if s.isEmpty || decide (200 < d) then ([], s)
    else if s.headD 0 ≠ 60 then
      let q := gNodes n d (s.drop (untilL [60] s))
      (⟨str [], str ((unescL (s.take (untilL [60] s))).getD []), str [], [], []⟩ :: q.1, q.2)
    else if Lib.hasPrefix s [60, 47] then ([], s)
    else
      let r := gElemW (gNodes n) d s
      let q := gNodes n d r.2
      (r.1 :: q.1, q.2)
def gOk (l : List Tree) (s : Bs) : Bool := l.all mayTree && ((l.flatMap htmlT == s) && (plainTs false l && decide (deepTs l ≤ 200)))
/-- The reference's Get: the trees, and an error's number. -/
def gGet (s : Bs) : List Tree × Nat :=
  if 6000 < s.length then ([], 13) else if gOk (gNodes s.length 0 s).1 s then ((gNodes s.length 0 s).1, 0) else ([], 7)

/-! ### Bytes -/
theorem untilL_app {signs a b : Bs} {c : UInt8} (ha : ∀ x ∈ a, signs.contains x = false) (hc : signs.contains c = true) : untilL signs (a ++ c :: b) = a.length := by
  unfold untilL
  induction a with
  | nil => rw [List.nil_append, List.findIdx_cons, hc]; rfl
  | cons x a ih =>
    rw [List.cons_append, List.findIdx_cons, ha x List.mem_cons_self]
    simp only [cond_false, List.length_cons]
    rw [ih (fun y hy => ha y (List.mem_cons_of_mem _ hy))]
theorem untilL_all {signs a : Bs} (ha : ∀ x ∈ a, signs.contains x = false) : untilL signs a = a.length := by
  unfold untilL
  rw [List.findIdx_eq_length]
  exact ha
theorem name_no {c x : UInt8} (h : nameB x = true) (hc : nameB c = false) : x ≠ c := by
  rintro rfl
  rw [h] at hc
  cases hc
theorem isName_all {s : Str} (h : isName s = true) : (∀ x ∈ s.data.toList, nameB x = true) ∧ s.data.toList ≠ [] := by
  unfold isName at h
  simp only [Bool.and_eq_true, decide_eq_true_eq] at h
  obtain ⟨⟨⟨h1, h2⟩, h3⟩, h4⟩ := h
  refine ⟨fun x hx => ?_, fun e => ?_⟩
  · obtain ⟨j, hj, rfl⟩ := List.getElem_of_mem hx
    exact h4 j (by rw [data_len] at hj; exact hj)
  · rw [← data_len, e] at h1
    simp at h1
theorem signL_no (c : UInt8) : ∀ x ∈ signL c, x ≠ 34 ∧ x ≠ 60 := by
  intro x hx
  cases hp : plainB c
  · rcases not_plain hp with rfl | rfl | rfl | rfl
    · simp [signL] at hx; rcases hx with rfl | rfl | rfl | rfl | rfl <;> decide
    · simp [signL] at hx; rcases hx with rfl | rfl | rfl | rfl <;> decide
    · simp [signL] at hx; rcases hx with rfl | rfl | rfl | rfl <;> decide
    · simp [signL] at hx; rcases hx with rfl | rfl | rfl | rfl | rfl | rfl <;> decide
  · rw [signL_plain hp] at hx
    simp at hx
    subst hx
    refine ⟨?_, ?_⟩ <;> (rintro rfl; revert hp; decide)
theorem escL_no (l : Bs) : ∀ x ∈ escL l, x ≠ 34 ∧ x ≠ 60 := by
  intro x hx
  obtain ⟨c, _, hc⟩ := List.mem_flatMap.1 hx
  exact signL_no c x hc
theorem escL_nil {l : Bs} (h : escL l = []) : l = [] := by
  cases l with
  | nil => rfl
  | cons c l =>
    have := (signL_len c).2
    have h2 := congrArg List.length h
    simp only [escL, List.flatMap_cons, List.length_append, List.length_nil] at h2
    omega
theorem trim_app (m r : Bs) : Lib.trimPrefix (m ++ r) m = r ∧ Lib.hasPrefix (m ++ r) m = true := by
  have h : Lib.hasPrefix (m ++ r) m = true := by
    unfold Lib.hasPrefix
    rw [List.isPrefixOf_iff_prefix]
    exact List.prefix_append _ _
  refine ⟨?_, h⟩
  unfold Lib.trimPrefix
  rw [if_pos h, List.drop_left]
theorem cut_app {a b m : Bs} {c : UInt8} (ha : ∀ x ∈ a, x ≠ c) : Lib.cut (a ++ (c :: m) ++ b) (c :: m) = (a, b, true) := by
  have hi : Lib.index (a ++ (c :: m) ++ b) (c :: m) = (a.length : Int) := by
    refine Lib.index_first (by simp) ?_ (fun j hj => ?_)
    · unfold Lib.occAt
      rw [List.append_assoc, List.drop_left, List.isPrefixOf_iff_prefix]
      exact List.prefix_append _ _
    · unfold Lib.occAt
      rw [List.append_assoc, List.drop_append_of_le_length (by omega), List.drop_eq_getElem_cons hj, List.cons_append]
      have := ha a[j] (List.getElem_mem hj)
      simp [List.isPrefixOf, Ne.symm this]
  unfold Lib.cut
  rw [hi, if_pos (by omega)]
  simp only [Int.toNat_natCast]
  rw [List.append_assoc, List.take_left]
  congr 1
  congr 1
  rw [← List.append_assoc, show a.length + (c :: m).length = (a ++ (c :: m)).length from by simp, List.drop_left]
end Go.Proofs.Ytfbpjadigmkkkaa
