/- Escaped texts, as lists of bytes: plain Lean, no program in sight. -/
import Derived.Lib.Strings
import Derived.Lib.Bytealg
namespace Go.Proofs.Ytfbpjadigmkkkaa

def signL (c : UInt8) : List UInt8 :=
  if c = 38 then [38, 97, 109, 112, 59] else if c = 60 then [38, 108, 116, 59] else if c = 62 then [38, 103, 116, 59] else if c = 34 then [38, 113, 117, 111, 116, 59] else [c]
def plainB (c : UInt8) : Bool := !(c == 38 || c == 60 || c == 62 || c == 34)
def escL (l : List UInt8) : List UInt8 := l.flatMap signL
/-- The sign that a text begins with, and how many bytes stand for it; 0: none does. -/
def firstL : List UInt8 → UInt8 × Nat
  | [] => (0, 0)
  | c :: r =>
    if plainB c then (c, 1)
    else if Lib.hasPrefix (c :: r) [38, 97, 109, 112, 59] then (38, 5)
    else if Lib.hasPrefix (c :: r) [38, 108, 116, 59] then (60, 4)
    else if Lib.hasPrefix (c :: r) [38, 103, 116, 59] then (62, 4)
    else if Lib.hasPrefix (c :: r) [38, 113, 117, 111, 116, 59] then (34, 6)
    else (0, 0)
def unescN : Nat → List UInt8 → Option (List UInt8)
  | 0, _ => some []
  | _ + 1, [] => some []
  | n + 1, c :: r => if (firstL (c :: r)).2 = 0 then none else (unescN n ((c :: r).drop (firstL (c :: r)).2)).map ((firstL (c :: r)).1 :: ·)
def unescL (l : List UInt8) : Option (List UInt8) := unescN l.length l

theorem plain_index (c : UInt8) : decide (Lib.indexByte [38, 60, 62, 34] c < 0) = plainB c := by
  unfold plainB Lib.indexByte Lib.indexByte Lib.indexByte Lib.indexByte Lib.indexByte
  by_cases h1 : c = 38
  · subst h1; rfl
  by_cases h2 : c = 60
  · subst h2; rfl
  by_cases h3 : c = 62
  · subst h3; rfl
  by_cases h4 : c = 34
  · subst h4; rfl
  have e1 : ((38 : UInt8) == c) = false := by simpa using fun h => h1 h.symm
  have e2 : ((60 : UInt8) == c) = false := by simpa using fun h => h2 h.symm
  have e3 : ((62 : UInt8) == c) = false := by simpa using fun h => h3 h.symm
  have e4 : ((34 : UInt8) == c) = false := by simpa using fun h => h4 h.symm
  simp [h1, h2, h3, h4, e1, e2, e3, e4]

theorem signL_len (c : UInt8) : (signL c).length ≤ 6 ∧ 1 ≤ (signL c).length := by
  unfold signL
  repeat' split
  all_goals simp
theorem signL_plain {c : UInt8} (h : plainB c = true) : signL c = [c] := by
  unfold plainB at h
  simp only [Bool.not_eq_true', Bool.or_eq_false_iff, beq_eq_false_iff_ne] at h
  unfold signL
  rw [if_neg h.1.1.1, if_neg h.1.1.2, if_neg h.1.2, if_neg h.2]
theorem not_plain {c : UInt8} (h : plainB c = false) : c = 38 ∨ c = 60 ∨ c = 62 ∨ c = 34 := by
  unfold plainB at h
  simp only [Bool.not_eq_false', Bool.or_eq_true, beq_iff_eq] at h
  rcases h with ((h | h) | h) | h <;> simp [h]
theorem escL_append (a b : List UInt8) : escL (a ++ b) = escL a ++ escL b := by simp [escL]
theorem escL_len (l : List UInt8) : (escL l).length ≤ 6 * l.length := by
  induction l with
  | nil => simp [escL]
  | cons c l ih =>
    have := (signL_len c).1
    simp only [escL, List.flatMap_cons, List.length_append, List.length_cons] at *
    omega
theorem escL_snoc (l : List UInt8) (c : UInt8) : escL (l ++ [c]) = escL l ++ signL c := by simp [escL]

theorem firstL_le (l : List UInt8) : (firstL l).2 ≤ l.length := by
  unfold firstL
  split
  · simp
  · rename_i c r
    have hp : ∀ p : List UInt8, Lib.hasPrefix (c :: r) p = true → p.length ≤ (c :: r).length := by
      intro p h
      unfold Lib.hasPrefix at h
      exact (List.isPrefixOf_iff_prefix.1 h).length_le
    split
    · simp
    split
    · rename_i h; exact hp _ h
    split
    · rename_i h; exact hp _ h
    split
    · rename_i h; exact hp _ h
    split
    · rename_i h; exact hp _ h
    · simp

theorem unescN_more : ∀ (n m : Nat) (l : List UInt8), l.length ≤ n → l.length ≤ m → unescN n l = unescN m l := by
  intro n
  induction n with
  | zero =>
    intro m l hn _
    obtain rfl : l = [] := List.eq_nil_of_length_eq_zero (by omega)
    cases m <;> rfl
  | succ n ih =>
    intro m l hn hm
    cases l with
    | nil => cases m <;> rfl
    | cons c r =>
      cases m with
      | zero => simp at hm
      | succ m =>
        simp only [unescN]
        by_cases h0 : (firstL (c :: r)).2 = 0
        · rw [if_pos h0, if_pos h0]
        · rw [if_neg h0, if_neg h0, ih m _ (by rw [List.length_drop]; omega) (by rw [List.length_drop]; omega)]
theorem unescL_nil : unescL [] = some [] := rfl
theorem unescL_step {l : List UInt8} (hl : l ≠ []) : unescL l = if (firstL l).2 = 0 then none else (unescL (l.drop (firstL l).2)).map ((firstL l).1 :: ·) := by
  cases l with
  | nil => exact absurd rfl hl
  | cons c r =>
    show unescN (r.length + 1) (c :: r) = _
    simp only [unescN]
    by_cases h0 : (firstL (c :: r)).2 = 0
    · rw [if_pos h0, if_pos h0]
    · rw [if_neg h0, if_neg h0]
      unfold unescL
      rw [unescN_more r.length _ _ (by rw [List.length_drop, List.length_cons]; omega) (Nat.le_refl _)]

/-- What stands for a sign at a text's head is that sign's. -/
theorem firstL_sign (c : UInt8) (r : List UInt8) : firstL (signL c ++ r) = (c, (signL c).length) := by
  cases hp : plainB c
  · rcases not_plain hp with rfl | rfl | rfl | rfl
    · show firstL (38 :: 97 :: 109 :: 112 :: 59 :: r) = _
      simp [firstL, plainB, Lib.hasPrefix, signL]
    · show firstL (38 :: 108 :: 116 :: 59 :: r) = _
      simp [firstL, plainB, Lib.hasPrefix, signL]
    · show firstL (38 :: 103 :: 116 :: 59 :: r) = _
      simp [firstL, plainB, Lib.hasPrefix, signL]
    · show firstL (38 :: 113 :: 117 :: 111 :: 116 :: 59 :: r) = _
      simp [firstL, plainB, Lib.hasPrefix, signL]
  · rw [signL_plain hp]
    simp [firstL, hp]
theorem unescL_escL (l : List UInt8) : unescL (escL l) = some l := by
  induction l with
  | nil => rfl
  | cons c l ih =>
    have hs := signL_len c
    have e : escL (c :: l) = signL c ++ escL l := by simp [escL]
    rw [e, unescL_step (by intro h; have := congrArg List.length h; rw [List.length_append, List.length_nil] at this; omega), firstL_sign]
    rw [if_neg (by show ¬ (signL c).length = 0; omega)]
    show (unescL ((signL c ++ escL l).drop (signL c).length)).map (c :: ·) = _
    rw [List.drop_left, ih]; rfl
end Go.Proofs.Ytfbpjadigmkkkaa
