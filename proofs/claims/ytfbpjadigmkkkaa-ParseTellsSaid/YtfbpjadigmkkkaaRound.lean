/- A normal forest's HTML is read back as it was, by both readings. -/
import Derived.Test.YtfbpjadigmkkkaaGuessP
namespace Go.Proofs.Ytfbpjadigmkkkaa

mutual
def normT : Tree → Bool
  | ⟨_, _, key, attrs, kids⟩ => emp key && (attrs.all (fun a => !a.static) && normTs kids)
def normTs : List Tree → Bool
  | [] => true
  | t :: ts => normT t && normTs ts
end
theorem htmlA_eq (a : Attr) (Y : Bs) : htmlA a ++ Y = 32 :: (a.name.data.toList ++ 61 :: 34 :: (escL a.value.data.toList ++ 34 :: Y)) := by simp [htmlA]
theorem attr_eq {a : Attr} (h : a.static = false) : (⟨str a.name.data.toList, str a.value.data.toList, false⟩ : Attr) = a := by
  obtain ⟨n, v, s⟩ := a
  simp only at h
  subst h
  simp only [str_of]
theorem emp_eq {s : Str} (h : emp s = true) : s = str [] := by
  unfold emp at h
  refine str_eq ?_
  rw [str_toList]
  simpa using h
theorem emp_ne {s : Str} (h : emp s = false) : s.data.toList ≠ [] := by
  intro e
  have h2 : s = str [] := by rw [← str_of s, e]
  rw [h2, emp, str_toList] at h
  cases h
theorem okAttr_name {pre : List Attr} {a : Attr} (h : okAttr pre a = true) : isName a.name = true := by
  unfold okAttr at h
  simp only [Bool.and_eq_true] at h
  exact h.1.1
theorem mayAttrs_names {l : List Attr} (h : mayAttrs l = true) : ∀ a ∈ l, isName a.name = true := by
  intro a ha
  unfold mayAttrs at h
  rw [Bool.and_eq_true, decide_eq_true_eq] at h
  obtain ⟨j, hj, rfl⟩ := List.getElem_of_mem ha
  exact okAttr_name (h.1 j hj)

theorem pAttr_round (a : Attr) (Y : Bs) (h1 : isName a.name = true) (h2 : a.static = false) : pAttr (htmlA a ++ Y) false = (a, Y, false) := by
  have hn : ∀ x ∈ a.name.data.toList, x ≠ 61 := fun x hx => name_no ((isName_all h1).1 x hx) (by decide)
  have he : ∀ x ∈ escL a.value.data.toList, x ≠ 34 := fun x hx => (escL_no _ x hx).1
  rw [htmlA_eq]
  have e1 := trim_app [32] (a.name.data.toList ++ 61 :: 34 :: (escL a.value.data.toList ++ 34 :: Y))
  have e2 := cut_app (b := escL a.value.data.toList ++ 34 :: Y) (m := [34]) hn
  have e3 := cut_app (b := Y) (m := []) he
  simp only [List.cons_append, List.nil_append, List.append_assoc] at e1 e2 e3
  simp only [pAttr, pMark, pUpto, e1.1, e1.2, e2, e3, pValue, unescL_escL]
  simp [attr_eq h2]
theorem noSpace {X : Bs} (h : X.headD 0 ≠ 32) : Lib.hasPrefix X [32] = false := by
  cases X with
  | nil => rfl
  | cons c r =>
    simp at h
    simp [Lib.hasPrefix, List.isPrefixOf, Ne.symm h]
theorem pAttrs_round : ∀ (as_ : List Attr) (n : Nat) (X : Bs), (∀ a ∈ as_, isName a.name = true ∧ a.static = false) → X.headD 0 ≠ 32 → (as_.flatMap htmlA ++ X).length ≤ n → pAttrs n (as_.flatMap htmlA ++ X) false = (as_, X, false)
  | [], n, X, _, hX, _ => by
    rw [List.flatMap_nil, List.nil_append]
    cases n with
    | zero => rfl
    | succ n => rw [pAttrs, if_pos (by rw [noSpace hX]; rfl)]
  | a :: as_, n, X, h, hX, hn => by
    rw [List.flatMap_cons, List.append_assoc] at hn ⊢
    have hp : Lib.hasPrefix (htmlA a ++ (as_.flatMap htmlA ++ X)) [32] = true := by rw [htmlA_eq]; exact (trim_app [32] _).2
    have hl : 1 ≤ (htmlA a).length := by simp [htmlA]
    cases n with
    | zero => rw [List.length_append] at hn; omega
    | succ n =>
      obtain ⟨h1, h2⟩ := h a List.mem_cons_self
      rw [pAttrs, if_neg (by rw [hp]; simp), pAttr_round a _ h1 h2]
      simp only
      rw [pAttrs_round as_ n X (fun b hb => h b (List.mem_cons_of_mem _ hb)) hX (by rw [List.length_append] at hn; omega)]
theorem gAttrs_round : ∀ (as_ : List Attr) (n : Nat) (X : Bs), (∀ a ∈ as_, isName a.name = true ∧ a.static = false) → X.headD 0 ≠ 32 → (as_.flatMap htmlA ++ X).length ≤ n → gAttrs n (as_.flatMap htmlA ++ X) = (as_, X)
  | [], n, X, _, hX, _ => by
    rw [List.flatMap_nil, List.nil_append]
    cases n with
    | zero => rfl
    | succ n => rw [gAttrs, if_neg hX]
  | a :: as_, n, X, h, hX, hn => by
    rw [List.flatMap_cons, List.append_assoc] at hn ⊢
    have hl : 1 ≤ (htmlA a).length := by simp [htmlA]
    cases n with
    | zero => rw [List.length_append] at hn; omega
    | succ n =>
      obtain ⟨h1, h2⟩ := h a List.mem_cons_self
      have hr := gAttrs_round as_ n X (fun b hb => h b (List.mem_cons_of_mem _ hb)) hX (by rw [List.length_append] at hn; omega)
      generalize as_.flatMap htmlA ++ X = Y at hr ⊢
      have hnm : ∀ x ∈ (32 :: a.name.data.toList : Bs), ([61] : Bs).contains x = false := by
        intro x hx
        rcases List.mem_cons.1 hx with rfl | hx
        · rfl
        · have := name_no ((isName_all h1).1 x hx) (c := 61) (by decide)
          simp [this]
      have he : ∀ x ∈ escL a.value.data.toList, ([34] : Bs).contains x = false := by
        intro x hx
        have := (escL_no _ x hx).1
        simp [this]
      have u1 := untilL_app (b := 34 :: (escL a.value.data.toList ++ 34 :: Y)) hnm (c := 61) rfl
      have u2 := untilL_app (b := Y) he (c := 34) rfl
      rw [htmlA_eq, gAttrs, if_pos (show (32 :: (a.name.data.toList ++ 61 :: 34 :: (escL a.value.data.toList ++ 34 :: Y))).headD 0 = 32 from rfl)]
      simp only [List.cons_append] at u1
      rw [u1]
      have d1 : (32 :: (a.name.data.toList ++ 61 :: 34 :: (escL a.value.data.toList ++ 34 :: Y))).drop (32 :: a.name.data.toList).length = 61 :: 34 :: (escL a.value.data.toList ++ 34 :: Y) := by simp
      have t1 : (32 :: (a.name.data.toList ++ 61 :: 34 :: (escL a.value.data.toList ++ 34 :: Y))).take (32 :: a.name.data.toList).length = 32 :: a.name.data.toList := by simp
      rw [d1, t1]
      simp only [List.drop_succ_cons, List.drop_zero, u2]
      have t2 : (escL a.value.data.toList ++ 34 :: Y).take (escL a.value.data.toList).length = escL a.value.data.toList := by simp
      have d2 : (escL a.value.data.toList ++ 34 :: Y).drop ((escL a.value.data.toList).length + 1) = Y := by simp
      rw [t2, d2, unescL_escL, if_neg (by simp), if_neg (by simp), hr]
      simp [attr_eq h2]
end Go.Proofs.Ytfbpjadigmkkkaa
