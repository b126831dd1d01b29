/- The parser, as a plain function over bytes. -/
import Derived.Test.YtfbpjadigmkkkaaTreeP
import Derived.Test.YtfbpjadigmkkkaaScan
import Derived.Lib.IndexMore
namespace Go.Proofs.Ytfbpjadigmkkkaa

abbrev Bs := List UInt8
def str (l : Bs) : Str := ⟨l.toArray⟩
theorem str_data (l : Bs) : (str l).data.toList = l := rfl
theorem str_of (s : Str) : str s.data.toList = s := Lib.mk_data s
theorem str_size (l : Bs) : (str l).size = l.length := rfl
theorem str_toList (l : Bs) : (str l).toList = l := ByteArray.toList_mk _

def pMark (m l : Bs) (bad : Bool) : Bs × Bool := (Lib.trimPrefix l m, bad || !Lib.hasPrefix l m)
def pUpto (m l : Bs) (bad : Bool) : Bs × Bs × Bool := ((Lib.cut l m).1, (Lib.cut l m).2.1, bad || !(Lib.cut l m).2.2)
def pAhead (signs l : Bs) : Bs × Bs := (l.take (untilL signs l), l.drop (untilL signs l))
def pValue (t : Bs) (bad : Bool) : Bs × Bool := ((unescL t).getD [], bad || (unescL t).isNone)
def pAttr (l : Bs) (bad : Bool) : Attr × Bs × Bool :=
  let r1 := pMark [32] l bad
  let r2 := pUpto [61, 34] r1.1 r1.2
  let r3 := pUpto [34] r2.2.1 r2.2.2
  let r4 := pValue r3.1 r3.2.2
  (⟨str r2.1, str r4.1, false⟩, r3.2.1, r4.2)
def pAttrs : Nat → Bs → Bool → List Attr × Bs × Bool
  | 0, l, bad => ([], l, bad)
  | n + 1, l, bad => if bad || !Lib.hasPrefix l [32] then ([], l, bad) else
    let r := pAttr l bad
    let q := pAttrs n r.2.1 r.2.2
    (r.1 :: q.1, q.2)
/-- An element, its kids read by 'nodes'. -/
def pElemW (nodes : Nat → Bs → Bool → List Tree × Bs × Bool) (d : Nat) (l : Bs) (bad : Bool) : Tree × Bs × Bool :=
  let r1 := pMark [60] l (bad || decide (200 ≤ d))
  let r2 := pAhead [32, 62] r1.1
  let r3 := pAttrs r2.2.length r2.2 r1.2
  let r4 := pMark [62] r3.2.1 r3.2.2
  if isVoid (str r2.1) then (⟨str r2.1, str [], str [], r3.1, []⟩, r4.1, r4.2)
  else
    let r5 := nodes (d + 1) r4.1 r4.2
    let r6 := pMark ([60, 47] ++ r2.1 ++ [62]) r5.2.1 r5.2.2
    (⟨str r2.1, str [], str [], r3.1, r5.1⟩, r6.1, r6.2)
def pNodes : Nat → Nat → Bs → Bool → List Tree × Bs × Bool
  | 0, _, l, bad => ([], l, bad)
  | n + 1, d, l, bad =>
    if bad || l.isEmpty || Lib.hasPrefix l [60, 47] then ([], l, bad)
    else if l.headD 0 = 60 then
      let r := pElemW (pNodes n) d l bad
      let q := pNodes n d r.2.1 r.2.2
      (r.1 :: q.1, q.2)
    else
      let r := pAhead [60] l
      let v := pValue r.1 bad
      let q := pNodes n d r.2 v.2
      (⟨str [], str v.1, str [], [], []⟩ :: q.1, q.2)

/-! ### What is left is no longer -/
theorem trim_le (l m : Bs) : (Lib.trimPrefix l m).length ≤ l.length := Lib.trimPrefix_le l m
theorem cut_le (l m : Bs) : (Lib.cut l m).1.length + (Lib.cut l m).2.1.length ≤ l.length := by
  unfold Lib.cut
  split
  · simp only [List.length_take, List.length_drop]; omega
  · simp
theorem pAttr_le (l : Bs) (bad : Bool) (h : Lib.hasPrefix l [32] = true) : (pAttr l bad).2.1.length < l.length := by
  have h1 : (Lib.trimPrefix l [32]).length + 1 = l.length := by
    unfold Lib.trimPrefix
    rw [if_pos h]
    have := (List.isPrefixOf_iff_prefix.1 h).length_le
    simp at this ⊢
    omega
  have h2 := cut_le (Lib.trimPrefix l [32]) [61, 34]
  have h3 := cut_le (Lib.cut (Lib.trimPrefix l [32]) [61, 34]).2.1 [34]
  simp only [pAttr, pMark, pUpto]
  omega
theorem pAttrs_le : ∀ (n : Nat) (l : Bs) (bad : Bool), (pAttrs n l bad).2.1.length ≤ l.length
  | 0, l, bad => Nat.le_refl _
  | n + 1, l, bad => by
    rw [pAttrs]
    split
    · exact Nat.le_refl _
    · rename_i h
      simp only [Bool.or_eq_true, Bool.not_eq_true', not_or, Bool.not_eq_false] at h
      have h1 := pAttr_le l bad h.2
      have h2 := pAttrs_le n (pAttr l bad).2.1 (pAttr l bad).2.2
      exact Nat.le_trans h2 (by omega)
theorem pAhead_le (signs l : Bs) : (pAhead signs l).1.length + (pAhead signs l).2.length = l.length := by
  simp only [pAhead, List.length_take, List.length_drop]; omega
theorem head_prefix {l : Bs} (h : l.headD 0 = 60) : ∃ r, l = 60 :: r := by
  cases l with
  | nil => simp at h
  | cons c r => simp at h; subst h; exact ⟨r, rfl⟩
theorem pElemW_lt {nodes : Nat → Bs → Bool → List Tree × Bs × Bool} (hn : ∀ d l bad, (nodes d l bad).2.1.length ≤ l.length) (d : Nat) (r : Bs) (bad : Bool) :
    (pElemW nodes d (60 :: r) bad).2.1.length < (60 :: r).length := by
  have h0 : Lib.trimPrefix (60 :: r) [60] = r := by simp [Lib.trimPrefix, Lib.hasPrefix]
  have h1 := pAhead_le [32, 62] r
  have h2 := pAttrs_le (pAhead [32, 62] r).2.length (pAhead [32, 62] r).2 ((pMark [60] (60 :: r) (bad || decide (200 ≤ d))).2)
  simp only [pElemW, pMark, h0] at h2 ⊢
  generalize pAttrs _ _ _ = q at h2 ⊢
  have h3 := trim_le q.2.1 [62]
  split
  · simp only [List.length_cons]; omega
  · have h4 := hn (d + 1) (Lib.trimPrefix q.2.1 [62]) (q.2.2 || !Lib.hasPrefix q.2.1 [62])
    simp only [List.length_cons]
    refine Nat.lt_of_le_of_lt (trim_le _ _) ?_
    omega
theorem pNodes_le : ∀ (n d : Nat) (l : Bs) (bad : Bool), (pNodes n d l bad).2.1.length ≤ l.length
  | 0, d, l, bad => Nat.le_refl _
  | n + 1, d, l, bad => by
    rw [pNodes]
    split
    · exact Nat.le_refl _
    split
    · rename_i h
      obtain ⟨r, rfl⟩ := head_prefix h
      have h1 := pElemW_lt (nodes := pNodes n) (fun d l bad => pNodes_le n d l bad) d r bad
      have h2 := pNodes_le n d (pElemW (pNodes n) d (60 :: r) bad).2.1 (pElemW (pNodes n) d (60 :: r) bad).2.2
      exact Nat.le_trans h2 (by omega)
    · have h1 := pAhead_le [60] l
      have h2 := pNodes_le n d (pAhead [60] l).2 (pValue (pAhead [60] l).1 bad).2
      exact Nat.le_trans h2 (by omega)
theorem untilL_pos {signs l : Bs} (h0 : l ≠ []) (h : signs.contains (l.headD 0) = false) : 0 < untilL signs l := by
  cases l with
  | nil => exact absurd rfl h0
  | cons c r =>
    simp at h
    unfold untilL
    rw [List.findIdx_cons]
    simp [h]
theorem pAhead_lt {l : Bs} (h0 : l ≠ []) (h : l.headD 0 ≠ 60) : (pAhead [60] l).2.length < l.length := by
  have := untilL_pos (signs := [60]) h0 (by cases l with | nil => exact absurd rfl h0 | cons c r => simpa using h)
  have : 0 < l.length := List.length_pos_iff.2 h0
  simp only [pAhead, List.length_drop]; omega

/-- Enough fuel is as good as more. -/
theorem pNodes_more : ∀ (n m d : Nat) (l : Bs) (bad : Bool), l.length ≤ n → l.length ≤ m → pNodes n d l bad = pNodes m d l bad := by
  intro n
  induction n with
  | zero =>
    intro m d l bad hn _
    obtain rfl : l = [] := List.eq_nil_of_length_eq_zero (by omega)
    cases m with
    | zero => rfl
    | succ m => rw [pNodes, pNodes]; simp
  | succ n ih =>
    intro m d l bad hn hm
    cases m with
    | zero =>
      obtain rfl : l = [] := List.eq_nil_of_length_eq_zero (by omega)
      rw [pNodes, pNodes]; simp
    | succ m =>
      rw [pNodes, pNodes]
      split
      · rfl
      rename_i hc
      split
      · rename_i h
        obtain ⟨r, rfl⟩ := head_prefix h
        have e : pElemW (pNodes n) d (60 :: r) bad = pElemW (pNodes m) d (60 :: r) bad := by
          have h0 : Lib.trimPrefix (60 :: r) [60] = r := by simp [Lib.trimPrefix, Lib.hasPrefix]
          have h1 := pAhead_le [32, 62] r
          have h2 := pAttrs_le (pAhead [32, 62] r).2.length (pAhead [32, 62] r).2 ((pMark [60] (60 :: r) (bad || decide (200 ≤ d))).2)
          simp only [pElemW, pMark, h0] at h2 ⊢
          generalize pAttrs _ _ _ = q at h2 ⊢
          have h3 := trim_le q.2.1 [62]
          simp only [List.length_cons] at hn hm
          rw [ih m (d + 1) (Lib.trimPrefix q.2.1 [62]) _ (by omega) (by omega)]
        have h1 := pElemW_lt (nodes := pNodes m) (fun d l bad => pNodes_le m d l bad) d r bad
        simp only [e]
        rw [ih m d _ _ (by omega) (by omega)]
      · rename_i h
        have h0 : l ≠ [] := by
          intro e; subst e; simp at hc
        have h1 := pAhead_lt h0 h
        simp only
        rw [ih m d _ _ (by omega) (by omega)]
end Go.Proofs.Ytfbpjadigmkkkaa
