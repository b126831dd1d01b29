/- The document's example, reckoned. -/
import Derived.Test.YtfbpjadigmkkkaaParseL
namespace Go.Proofs.Ytfbpjadigmkkkaa

theorem emp_str (l : Bs) : emp (str l) = l.isEmpty := by rw [emp, str_toList]
theorem isVoid_str (l : Bs) : isVoid (str l) = (l == [98, 114] || l == [104, 114] || l == [105, 109, 103] || l == [105, 110, 112, 117, 116]) := by rw [isVoid, str_toList]
theorem str_get (l : Bs) (j : Nat) (h : j < (str l).size) : (str l)[j] = l[j]'h := rfl
theorem isText_str (l : Bs) : isText (str l) = (l.all textB && decide (l.length ≤ 60)) := by
  unfold isText
  show (decide (∀ j (h : j < l.length), textB l[j] = true) && decide (l.length ≤ 60)) = _
  congr 1
  rw [Bool.eq_iff_iff, decide_eq_true_eq, List.all_eq_true]
  constructor
  · intro h x hx
    obtain ⟨j, hj, rfl⟩ := List.getElem_of_mem hx
    exact h j hj
  · intro h j hj
    exact h _ (List.getElem_mem hj)
theorem isName_str (l : Bs) : isName (str l) = (decide (1 ≤ l.length) && decide (l.length ≤ 12) && letterB (l.headD 97) && l.all nameB) := by
  unfold isName
  show (decide (1 ≤ l.length) && decide (l.length ≤ 12) && decide (∀ h : 0 < l.length, letterB l[0] = true) && decide (∀ j (h : j < l.length), nameB l[j] = true)) = _
  congr 1
  · congr 1
    rw [Bool.eq_iff_iff, decide_eq_true_eq]
    cases l with
    | nil => exact ⟨fun _ => rfl, fun _ h => absurd h (by simp)⟩
    | cons c r => exact ⟨fun h => h (by simp), fun h _ => h⟩
  · rw [Bool.eq_iff_iff, decide_eq_true_eq, List.all_eq_true]
    constructor
    · intro h x hx
      obtain ⟨j, hj, rfl⟩ := List.getElem_of_mem hx
      exact h j hj
    · intro h j hj
      exact h _ (List.getElem_mem hj)
theorem str_data' (l : Bs) : (str l).data.toList = l := rfl

/-- "<p>a</p>b" -/
theorem up1 : pGet [60, 112, 62, 97, 60, 47, 112, 62, 98] = ([⟨str [112], str [], str [], [], [⟨str [], str [97], str [], [], []⟩]⟩, ⟨str [], str [98], str [], [], []⟩], 0) := by
  have h1 : pNodes 9 0 [60, 112, 62, 97, 60, 47, 112, 62, 98] false = ([⟨str [112], str [], str [], [], [⟨str [], str [97], str [], [], []⟩]⟩, ⟨str [], str [98], str [], [], []⟩], [], false) := by
    simp [pNodes, pElemW, pMark, pAhead, untilL, pAttrs, pValue, isVoid_str, Lib.trimPrefix, Lib.hasPrefix, List.isPrefixOf, List.findIdx_cons, unescL, unescN, firstL, plainB]
  unfold pGet pOk
  simp only [List.length_cons, List.length_nil]
  rw [h1]
  simp [mayTree, mayTrees, emp_str, isVoid_str, isText_str, isName_str, mayAttrs, htmlT, htmlTs, textB, nameB, letterB, escL, signL, str_data']
/-- "<p>" -/
theorem up2 : pGet [60, 112, 62] = ([], 7) := by
  have h1 : (pNodes 3 0 [60, 112, 62] false).2.2 = true := by
    simp [pNodes, pElemW, pMark, pAhead, untilL, pAttrs, pValue, isVoid_str, Lib.trimPrefix, Lib.hasPrefix, List.isPrefixOf, List.findIdx_cons, unescL, unescN, firstL, plainB]
  unfold pGet pOk
  simp only [List.length_cons, List.length_nil]
  rw [h1]
  simp
end Go.Proofs.Ytfbpjadigmkkkaa
