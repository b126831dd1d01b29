/- The reference's May of trees. -/
import Derived.Test.YtfbpjadigmkkkaaTreec
namespace Go.Proofs.Ytfbpjadigmkkkaa
open Go.RowKit

set_option maxHeartbeats 4000000 in
set_option maxRecDepth 100000 in
theorem rmayT_c (M : Nat → Prop) (n : Nat) : ∀ (t : Tree) (va vk : Value) (w : World), SizeOf.sizeOf t ≤ n → Sl w M va t.attrs → Sl w M vk t.kids → t.small 9223372036854775807 →
    ∀ R : Ending → World → Prop, (∀ w', Step Nil0 w w' → R (.returned (.bool (mayTree t))) w') →
    Calls Try.prog 17 #[.agg #[.string t.tag, .string t.text, .string t.key, va, vk]] w R := by
  induction n with
  | zero => intro t va vk w hn; obtain ⟨tag, text, key, attrs, kids⟩ := t; simp only [Tree.mk.sizeOf_spec] at hn; omega
  | succ n ih =>
    intro t va vk w hn ha hk hsm R h
    replace ih := Lib.hid ih
    obtain ⟨z1, z2, z3, z4, z5⟩ := (t.small_iff).1 hsm
    replace z4 := Lib.hid z4
    replace z5 := Lib.hid z5
    clear hsm
    obtain ⟨A, ca, rfl, hca, hma⟩ := ha.form
    obtain ⟨K, ck, rfl, hck, hmk⟩ := hk.form
    have hla : t.attrs.length ≤ 9223372036854775807 := by simp only [maxLen] at hma; omega
    have hlk : t.kids.length ≤ 9223372036854775807 := by simp only [maxLen] at hmk; omega
    clear hma hmk
    have hst0 : Step Nil0 w (w.alloc (.cells #[.string t.tag, .string t.text, .string t.key, .slice A t.attrs.length ca, .slice K t.kids.length ck] 38)) := (Step.refl _ _).alloc _
    have ha1 := ha.up (Up.still (M := M) hst0)
    have hall := fun (w1 : World) (hst : Step Nil0 (w.alloc (.cells #[.string t.tag, .string t.text, .string t.key, .slice A t.attrs.length ca, .slice K t.kids.length ck] 38)) w1) => boxed ha hk hst
    replace hall := Lib.hid hall
    cases e0 : emp t.tag
    · rw [mayTree_elem e0] at h
      have e0b : t.tag.toList.isEmpty = false := e0
      generalize e1 : isName t.tag = b1 at h
      generalize e2 : isText t.key = b2 at h
      generalize e4 : mayAttrs t.attrs = b4 at h
      generalize e5 : isVoid t.tag = b5 at h
      replace e1 := Lib.hid e1
      replace e2 := Lib.hid e2
      replace e4 := Lib.hid e4
      replace e5 := Lib.hid e5
      cases hgood : (b1 && (b2 && (emp t.text && (b4 && (!b5 || t.kids.length == 0)))))
      · have hno := h
        rw [show (b1 && (b2 && (emp t.text && (b4 && ((!b5 || t.kids.length == 0) && t.kids.all mayTree))))) = false from by
          have : (b1 && (b2 && (emp t.text && (b4 && ((!b5 || t.kids.length == 0) && t.kids.all mayTree))))) = ((b1 && (b2 && (emp t.text && (b4 && (!b5 || t.kids.length == 0))))) && t.kids.all mayTree) := by simp [Bool.and_assoc]
          rw [this, hgood, Bool.false_and]] at hno
        replace hno := Lib.hid hno
        clear h
        cases b1
        · go_enter Try.func17, Try.ntmps17
          go_wp2_with (first | (go_at_call 39; refine rname_c _ z1 _ ?_; rw [e1.out]) | (go_at_call 38; refine rtext_c _ z3 _ ?_; rw [e2.out]) | (go_at_call 40; refine rmay_c M _ t.attrs _ ha1 z4.out ?_; rw [e4.out]))
          intro w1 hst1
          obtain ⟨c0, c1, c2, c3, c4, sa, sk⟩ := hall.out _ hst1
          have hst01 := hst0.then_ hst1
          go_wp2_with (go_at_call 41; refine rvoid_c _ _ ?_; rw [e5.out])
          exact hno.out _ hst01
        cases b2
        · go_enter Try.func17, Try.ntmps17
          go_wp2_with (first | (go_at_call 39; refine rname_c _ z1 _ ?_; rw [e1.out]) | (go_at_call 38; refine rtext_c _ z3 _ ?_; rw [e2.out]) | (go_at_call 40; refine rmay_c M _ t.attrs _ ha1 z4.out ?_; rw [e4.out]))
          intro w1 hst1
          obtain ⟨c0, c1, c2, c3, c4, sa, sk⟩ := hall.out _ hst1
          have hst01 := hst0.then_ hst1
          go_wp2_with (go_at_call 41; refine rvoid_c _ _ ?_; rw [e5.out])
          exact hno.out _ hst01
        cases e3 : emp t.text
        · have e3b : t.text.toList.isEmpty = false := e3
          cases b4
          · go_enter Try.func17, Try.ntmps17
            go_wp2_with (first | (go_at_call 39; refine rname_c _ z1 _ ?_; rw [e1.out]) | (go_at_call 38; refine rtext_c _ z3 _ ?_; rw [e2.out]) | (go_at_call 40; refine rmay_c M _ t.attrs _ ha1 z4.out ?_; rw [e4.out]))
            intro w1 hst1
            obtain ⟨c0, c1, c2, c3, c4, sa, sk⟩ := hall.out _ hst1
            have hst01 := hst0.then_ hst1
            go_wp2_with (go_at_call 41; refine rvoid_c _ _ ?_; rw [e5.out])
            exact hno.out _ hst01
          · go_enter Try.func17, Try.ntmps17
            go_wp2_with (first | (go_at_call 39; refine rname_c _ z1 _ ?_; rw [e1.out]) | (go_at_call 38; refine rtext_c _ z3 _ ?_; rw [e2.out]) | (go_at_call 40; refine rmay_c M _ t.attrs _ ha1 z4.out ?_; rw [e4.out]))
            intro w1 hst1
            obtain ⟨c0, c1, c2, c3, c4, sa, sk⟩ := hall.out _ hst1
            have hst01 := hst0.then_ hst1
            go_wp2_with (go_at_call 41; refine rvoid_c _ _ ?_; rw [e5.out])
            exact hno.out _ hst01
        have e3b : t.text.toList.isEmpty = true := e3
        have e3c := emp_true e3
        cases b4
        · go_enter Try.func17, Try.ntmps17
          go_wp2_with (first | (go_at_call 39; refine rname_c _ z1 _ ?_; rw [e1.out]) | (go_at_call 38; refine rtext_c _ z3 _ ?_; rw [e2.out]) | (go_at_call 40; refine rmay_c M _ t.attrs _ ha1 z4.out ?_; rw [e4.out]))
          intro w1 hst1
          obtain ⟨c0, c1, c2, c3, c4, sa, sk⟩ := hall.out _ hst1
          have hst01 := hst0.then_ hst1
          go_wp2_with (go_at_call 41; refine rvoid_c _ _ ?_; rw [e5.out])
          exact hno.out _ hst01
        rw [e3] at hgood
        simp only [Bool.true_and, Bool.or_eq_false_iff] at hgood
        obtain ⟨hg1, hg2⟩ := hgood
        obtain rfl : b5 = true := by simpa using hg1
        clear hg1
        have hg3 : 0 < t.kids.length := by
          have : t.kids.length ≠ 0 := by simpa using hg2
          omega
        have e8 : decide (0 < (t.kids.length : Int)) = true := decide_eq_true (by omega)
        have e9 : decide (0 < t.kids.length) = true := decide_eq_true hg3
        clear hg2
        go_enter Try.func17, Try.ntmps17
        go_wp2_with (first | (go_at_call 39; refine rname_c _ z1 _ ?_; rw [e1.out]) | (go_at_call 38; refine rtext_c _ z3 _ ?_; rw [e2.out]) | (go_at_call 40; refine rmay_c M _ t.attrs _ ha1 z4.out ?_; rw [e4.out]))
        intro w1 hst1
        obtain ⟨c0, c1, c2, c3, c4, sa, sk⟩ := hall.out _ hst1
        have hst01 := hst0.then_ hst1
        go_wp2_with (go_at_call 41; refine rvoid_c _ _ ?_; rw [e5.out])
        exact hno.out _ hst01
      · simp only [Bool.and_eq_true, Bool.or_eq_true] at hgood
        obtain ⟨rfl, rfl, e3, rfl, hg⟩ := hgood
        have e3b : t.text.toList.isEmpty = true := e3
        have e3c := emp_true e3
        rw [e3] at h
        have hg' : (!b5 || t.kids.length == 0) = true := by simpa using hg
        rw [hg'] at h
        simp only [Bool.true_and] at h
        replace h := Lib.hid h
        cases b5
        · go_enter Try.func17, Try.ntmps17
          go_wp2_with (first | (go_at_call 39; refine rname_c _ z1 _ ?_; rw [e1.out]) | (go_at_call 38; refine rtext_c _ z3 _ ?_; rw [e2.out]) | (go_at_call 40; refine rmay_c M _ t.attrs _ ha1 z4.out ?_; rw [e4.out]))
          intro w1 hst1
          obtain ⟨c0, c1, c2, c3, c4, sa, sk⟩ := hall.out _ hst1
          go_wp2_with (go_at_call 41; refine rvoid_c _ _ ?_; rw [e5.out])
          go_loopw [8] (fun i wr => ∃ k : Nat, k ≤ t.kids.length ∧ i = .int .i64 k ∧ Step Nil0 w1 wr ∧ ∀ j (hj : j < t.kids.length), j < k → mayTree t.kids[j] = true) (fun i _ => t.kids.length - (intOf i).toNat)
          case atStart => exact ⟨0, Nat.zero_le _, rfl, Step.refl _ _, fun j _ h => absurd h (by omega)⟩
          case round =>
            obtain ⟨k, hk, rfl, hst, hak⟩ := hrel
            replace hak := Lib.hid hak
            obtain ⟨f0, f1, f2, f3, f4, xa, xk⟩ := hall.out _ (hst1.then_ hst)
            have hst01 := (hst0.then_ hst1).then_ hst
            by_cases hlt : k < t.kids.length
            · obtain ⟨ad, va', vk', hA, hnm, x0, x1, x2, x3, x4, xa', xk'⟩ := at_tree xk k hlt
              subst hA
              clear hnm
              have hsz : SizeOf.sizeOf t.kids[k] ≤ n := by have := kid_lt (List.getElem_mem hlt); omega
              have hzk := z5.out _ (List.getElem_mem hlt)
              cases em : mayTree t.kids[k]
              · have hno := h.out
                rw [List.all_eq_false.2 ⟨_, List.getElem_mem hlt, by rw [em]; decide⟩] at hno
                replace hno := Lib.hid hno
                replace em := Lib.hid em
                go_wp2_with (go_at_call 17; with_reducible (refine ih.out _ _ _ _ hsz xa' xk' hzk _ ?_))
                intro w2 hst2
                rw [em.out]
                go_wp2
                exact hno.out _ (hst01.then_ hst2)
              · replace em := Lib.hid em
                go_wp2_with (go_at_call 17; with_reducible (refine ih.out _ _ _ _ hsz xa' xk' hzk _ ?_))
                intro w2 hst2
                rw [em.out]
                go_wp2
                go_roundw
                case rel =>
                  refine ⟨k + 1, by omega, by go_num, hst.then_ hst2, fun j hj hjk => ?_⟩
                  rcases Nat.lt_or_ge j k with h3 | h3
                  · exact hak.out j hj h3
                  · obtain rfl : j = k := by omega
                    exact em.out
                case measure => simp [intOf]; omega
            · have hno := h.out
              rw [List.all_eq_true.2 (fun x hx => by obtain ⟨j, hj, rfl⟩ := List.getElem_of_mem hx; exact hak.out j hj (by omega))] at hno
              replace hno := Lib.hid hno
              go_wp2
              exact hno.out _ hst01
        · have hg2 : t.kids.length = 0 := by simpa using hg
          have e8 : decide (0 < (t.kids.length : Int)) = false := decide_eq_false (by omega)
          have e9 : decide (0 < t.kids.length) = false := decide_eq_false (by omega)
          clear hg hg'
          replace hg2 := Lib.hid hg2
          go_enter Try.func17, Try.ntmps17
          go_wp2_with (first | (go_at_call 39; refine rname_c _ z1 _ ?_; rw [e1.out]) | (go_at_call 38; refine rtext_c _ z3 _ ?_; rw [e2.out]) | (go_at_call 40; refine rmay_c M _ t.attrs _ ha1 z4.out ?_; rw [e4.out]))
          intro w1 hst1
          obtain ⟨c0, c1, c2, c3, c4, sa, sk⟩ := hall.out _ hst1
          go_wp2_with (go_at_call 41; refine rvoid_c _ _ ?_; rw [e5.out])
          go_loopw [8] (fun i wr => ∃ k : Nat, k ≤ t.kids.length ∧ i = .int .i64 k ∧ Step Nil0 w1 wr ∧ ∀ j (hj : j < t.kids.length), j < k → mayTree t.kids[j] = true) (fun i _ => t.kids.length - (intOf i).toNat)
          case atStart => exact ⟨0, Nat.zero_le _, rfl, Step.refl _ _, fun j _ h => absurd h (by omega)⟩
          case round =>
            obtain ⟨k, hk, rfl, hst, hak⟩ := hrel
            replace hak := Lib.hid hak
            obtain ⟨f0, f1, f2, f3, f4, xa, xk⟩ := hall.out _ (hst1.then_ hst)
            have hst01 := (hst0.then_ hst1).then_ hst
            by_cases hlt : k < t.kids.length
            · obtain ⟨ad, va', vk', hA, hnm, x0, x1, x2, x3, x4, xa', xk'⟩ := at_tree xk k hlt
              subst hA
              clear hnm
              have hsz : SizeOf.sizeOf t.kids[k] ≤ n := by have := kid_lt (List.getElem_mem hlt); omega
              have hzk := z5.out _ (List.getElem_mem hlt)
              cases em : mayTree t.kids[k]
              · have hno := h.out
                rw [List.all_eq_false.2 ⟨_, List.getElem_mem hlt, by rw [em]; decide⟩] at hno
                replace hno := Lib.hid hno
                replace em := Lib.hid em
                go_wp2_with (go_at_call 17; with_reducible (refine ih.out _ _ _ _ hsz xa' xk' hzk _ ?_))
                intro w2 hst2
                rw [em.out]
                go_wp2
                exact hno.out _ (hst01.then_ hst2)
              · replace em := Lib.hid em
                go_wp2_with (go_at_call 17; with_reducible (refine ih.out _ _ _ _ hsz xa' xk' hzk _ ?_))
                intro w2 hst2
                rw [em.out]
                go_wp2
                go_roundw
                case rel =>
                  refine ⟨k + 1, by omega, by go_num, hst.then_ hst2, fun j hj hjk => ?_⟩
                  rcases Nat.lt_or_ge j k with h3 | h3
                  · exact hak.out j hj h3
                  · obtain rfl : j = k := by omega
                    exact em.out
                case measure => simp [intOf]; omega
            · have hno := h.out
              rw [List.all_eq_true.2 (fun x hx => by obtain ⟨j, hj, rfl⟩ := List.getElem_of_mem hx; exact hak.out j hj (by omega))] at hno
              replace hno := Lib.hid hno
              go_wp2
              exact hno.out _ hst01
    · rw [mayTree_text e0] at h
      have e0b : t.tag.toList.isEmpty = true := e0
      have e0c := emp_true e0
      generalize e4 : isText t.text = b at h
      replace e4 := Lib.hid e4
      cases b
      · simp only [Bool.and_false] at h
        replace h := Lib.hid h
        go_enter Try.func17, Try.ntmps17
        go_wp2_with (go_at_call 38; refine rtext_c _ z2 _ ?_; rw [e4.out])
        exact h.out _ hst0
      cases e1 : emp t.key
      · rw [e1, Bool.false_and] at h
        have e1b : t.key.toList.isEmpty = false := e1
        replace h := Lib.hid h
        go_enter Try.func17, Try.ntmps17
        go_wp2_with (go_at_call 38; refine rtext_c _ z2 _ ?_; rw [e4.out])
        exact h.out _ hst0
      have e1b : t.key.toList.isEmpty = true := e1
      rw [e1, Bool.true_and] at h
      cases e2 : (t.attrs.length == 0)
      · rw [e2, Bool.false_and] at h
        have e2b : ((t.attrs.length : Int) == 0) = false := by simpa using e2
        replace h := Lib.hid h
        go_enter Try.func17, Try.ntmps17
        go_wp2_with (go_at_call 38; refine rtext_c _ z2 _ ?_; rw [e4.out])
        exact h.out _ hst0
      have e2b : ((t.attrs.length : Int) == 0) = true := by simpa using e2
      rw [e2, Bool.true_and] at h
      cases e3 : (t.kids.length == 0)
      · rw [e3, Bool.false_and] at h
        have e3b : ((t.kids.length : Int) == 0) = false := by simpa using e3
        replace h := Lib.hid h
        go_enter Try.func17, Try.ntmps17
        go_wp2_with (go_at_call 38; refine rtext_c _ z2 _ ?_; rw [e4.out])
        exact h.out _ hst0
      have e3b : ((t.kids.length : Int) == 0) = true := by simpa using e3
      rw [e3, Bool.true_and] at h
      replace h := Lib.hid h
      go_enter Try.func17, Try.ntmps17
      go_wp2_with (go_at_call 38; refine rtext_c _ z2 _ ?_; rw [e4.out])
      exact h.out _ hst0
end Go.Proofs.Ytfbpjadigmkkkaa
