/- tree.May and what it calls; the reference's May: they tell which trees may be. -/
import Derived.Test.YtfbpjadigmkkkaaAttr
namespace Go.Proofs.Ytfbpjadigmkkkaa
open Go.RowKit

theorem lt_cells {w : World} {b i : Nat} {v : Value} (h : w.cell? ⟨b, i, none⟩ = some v) : b < w.heap.size := World.block_lt_of_cell? w ⟨b, i, none⟩ h

set_option maxHeartbeats 1000000 in
theorem indexTree_c (M : Nat → Prop) (v : Value) (l : List Tree) (w : World) (hl : Sl w M v l) (f : Nat) (p : Tree → Bool)
    (hent : ∀ args w, (callFunc f args).run Try.prog w = .ok (.enter f args) w)
    (hp : ∀ x ∈ l, ∀ va vk w1, Step Nil0 w w1 → Sl w1 M va x.attrs → Sl w1 M vk x.kids → ∀ R : Ending → World → Prop, (∀ w2, Step Nil0 w1 w2 → R (.returned (.bool (p x))) w2) →
      Calls Try.prog f #[.agg #[.string x.tag, .string x.text, .string x.key, va, vk]] w1 R)
    {R : Ending → World → Prop} (h : ∀ w', Step Nil0 w w' → R (.returned (.int .i64 (idxI (l.findIdx? p)))) w') :
    Calls Try.prog 29 #[v, .func (.func f) #[] #[]] w R := by
  replace h := Lib.hid h
  replace hp := Lib.hid hp
  obtain ⟨A, cap, rfl, hcap, hmax⟩ := hl.form
  have hlen : l.length ≤ 9223372036854775807 := by simp only [maxLen] at hmax; omega
  clear hmax
  go_enter Try.func29, Try.ntmps29
  go_wp2
  go_loopw [8] (fun i wr => ∃ k : Nat, k ≤ l.length ∧ i = .int .i64 k ∧ Step Nil0 w wr ∧ ∀ j (hj : j < l.length), j < k → p l[j] = false) (fun i _ => l.length - (intOf i).toNat)
  case atStart => exact ⟨0, Nat.zero_le _, rfl, Step.refl _ _, fun j _ h => absurd h (by omega)⟩
  case round =>
    obtain ⟨k, hk, rfl, hst, hall⟩ := hrel
    replace hall := Lib.hid hall
    by_cases hlt : k < l.length
    · obtain ⟨ad, va, vk, hA, hnm, x0, x1, x2, x3, x4, ha, hkk⟩ := at_tree (hl.up (Up.still (M := M) hst)) k hlt
      subst hA
      clear hnm
      cases hpk : p l[k]
      · replace hpk := Lib.hid hpk
        go_wp2_with (with_reducible (refine hp.out _ (List.getElem_mem hlt) _ _ _ ?_ ?_ ?_ _ ?_))
        · exact hst
        · exact ha
        · exact hkk
        intro w2 hst2
        rw [hpk.out]
        go_wp2
        go_roundw
        case rel =>
          refine ⟨k + 1, by omega, by go_num, hst.then_ hst2, fun j hj hjk => ?_⟩
          rcases Nat.lt_or_ge j k with h3 | h3
          · exact hall.out j hj h3
          · obtain rfl : j = k := by omega
            exact hpk.out
        case measure => simp [intOf]; omega
      · have hno := h.out
        rw [findIdx_stop hlt (fun j hj hjk => hall.out j hj hjk) hpk] at hno
        replace hno := Lib.hid hno
        replace hpk := Lib.hid hpk
        go_wp2_with (with_reducible (refine hp.out _ (List.getElem_mem hlt) _ _ _ ?_ ?_ ?_ _ ?_))
        · exact hst
        · exact ha
        · exact hkk
        intro w2 hst2
        rw [hpk.out]
        go_wp2
        exact hno.out w2 (hst.then_ hst2)
    · have hno := h.out
      rw [findIdx_none (fun j hj => hall.out j hj (by omega))] at hno
      replace hno := Lib.hid hno
      go_wp2
      exact hno.out wr hst

theorem idx_any {α : Type} (p : α → Bool) (l : List α) : decide (0 ≤ idxI (l.findIdx? p)) = l.any p := by
  cases h : l.findIdx? p with
  | none =>
    rw [List.findIdx?_eq_none_iff] at h
    have : l.any p = false := by rw [List.any_eq_false]; intro x hx; simp [h x hx]
    rw [this]; rfl
  | some i =>
    rw [List.findIdx?_eq_some_iff_getElem] at h
    obtain ⟨hi, hp, _⟩ := h
    have : l.any p = true := List.any_eq_true.2 ⟨_, List.getElem_mem hi, hp⟩
    rw [this]
    exact decide_eq_true (by simp only [idxI]; omega)

theorem containsTree_c (M : Nat → Prop) (v : Value) (l : List Tree) (w : World) (hl : Sl w M v l) (f : Nat) (p : Tree → Bool)
    (hent : ∀ args w, (callFunc f args).run Try.prog w = .ok (.enter f args) w)
    (hp : ∀ x ∈ l, ∀ va vk w1, Step Nil0 w w1 → Sl w1 M va x.attrs → Sl w1 M vk x.kids → ∀ R : Ending → World → Prop, (∀ w2, Step Nil0 w1 w2 → R (.returned (.bool (p x))) w2) →
      Calls Try.prog f #[.agg #[.string x.tag, .string x.text, .string x.key, va, vk]] w1 R)
    {R : Ending → World → Prop} (h : ∀ w', Step Nil0 w w' → R (.returned (.bool (l.any p))) w') :
    Calls Try.prog 13 #[v, .func (.func f) #[] #[]] w R := by
  replace h := Lib.hid h
  replace hp := Lib.hid hp
  obtain ⟨A, cap, rfl, hcap, hmax⟩ := hl.form
  go_enter Try.func13, Try.ntmps13
  go_wp2_with (go_at_call 29; with_reducible (refine indexTree_c M _ l _ hl f p hent hp.out ?_))
  intro w' hst
  have hr := h.out w' hst
  rw [← idx_any] at hr
  go_wp2
  exact hr

theorem emp_true {s : Str} (h : emp s = true) : s.toList = [] := by simpa [emp] using h

set_option maxHeartbeats 4000000 in
set_option maxRecDepth 100000 in
theorem treeMay_c (M : Nat → Prop) (n : Nat) : ∀ (t : Tree) (va vk : Value) (w : World), SizeOf.sizeOf t ≤ n → Sl w M va t.attrs → Sl w M vk t.kids → t.small 9223372036854775807 →
    ∀ R : Ending → World → Prop, (∀ w', Step Nil0 w w' → R (.returned (.bool (mayTree t))) w') →
    Calls Try.prog 15 #[.agg #[.string t.tag, .string t.text, .string t.key, va, vk]] w R := by
  induction n with
  | zero => intro t va vk w hn; obtain ⟨tag, text, key, attrs, kids⟩ := t; simp only [Tree.mk.sizeOf_spec] at hn; omega
  | succ n ih =>
    intro t va vk w hn ha hk hsm R h
    replace ih := Lib.hid ih
    obtain ⟨z1, z2, z3, z4, z5⟩ := (t.small_iff).1 hsm
    replace z4 := Lib.hid z4
    replace z5 := Lib.hid z5
    clear hsm
    obtain ⟨A, ca, rfl, hca, hma⟩ := ha.form
    obtain ⟨K, ck, rfl, hck, hmk⟩ := hk.form
    have hla : t.attrs.length ≤ 9223372036854775807 := by simp only [maxLen] at hma; omega
    have hlk : t.kids.length ≤ 9223372036854775807 := by simp only [maxLen] at hmk; omega
    clear hma hmk
    cases e0 : emp t.tag
    · rw [mayTree_elem e0] at h
      have e0b : t.tag.toList.isEmpty = false := e0
      have hall : ∀ w1 : World, Step Nil0 (w.alloc (.cells #[.string t.tag, .string t.text, .string t.key, .slice A t.attrs.length ca, .slice K t.kids.length ck] 38)) w1 →
          w1.cell? ⟨w.heap.size, 0, none⟩ = some (.string t.tag) ∧ w1.cell? ⟨w.heap.size, 1, none⟩ = some (.string t.text) ∧ w1.cell? ⟨w.heap.size, 3, none⟩ = some (.slice A t.attrs.length ca) ∧ w1.cell? ⟨w.heap.size, 4, none⟩ = some (.slice K t.kids.length ck) ∧ Sl w1 M (.slice A t.attrs.length ca) t.attrs ∧ Sl w1 M (.slice K t.kids.length ck) t.kids := by
        intro w1 hst
        have hb := (Blk.new w 38 #[.string t.tag, .string t.text, .string t.key, .slice A t.attrs.length ca, .slice K t.kids.length ck]).step hst (by simp [Nil0])
        have hu : Up w M w1 M := Up.still (((Step.refl _ _).alloc _).then_ hst)
        exact ⟨by rw [hb.cell]; rfl, by rw [hb.cell]; rfl, by rw [hb.cell]; rfl, by rw [hb.cell]; rfl, ha.up hu, hk.up hu⟩
      replace hall := Lib.hid hall
      have hst0 : Step Nil0 w (w.alloc (.cells #[.string t.tag, .string t.text, .string t.key, .slice A t.attrs.length ca, .slice K t.kids.length ck] 38)) := (Step.refl _ _).alloc _
      have ha1 := ha.up (Up.still (M := M) hst0)
      cases e1 : isName t.tag
      · rw [e1, Bool.false_and] at h
        replace h := Lib.hid h
        replace e1 := Lib.hid e1
        go_enter Try.func15, Try.ntmps15
        go_wp2_with (go_at_call 31; refine name_c _ z1 _ ?_; rw [e1.out])
        exact h.out _ hst0
      cases e2 : isText t.key
      · rw [e2, Bool.false_and, Bool.and_false] at h
        replace h := Lib.hid h
        replace e1 := Lib.hid e1
        replace e2 := Lib.hid e2
        go_enter Try.func15, Try.ntmps15
        go_wp2_with (first | (go_at_call 31; refine name_c _ z1 _ ?_; rw [e1.out]) | (go_at_call 30; refine text_c _ z3 _ ?_; rw [e2.out]))
        exact h.out _ hst0
      cases e3 : emp t.text
      · rw [e3, Bool.false_and, Bool.and_false, Bool.and_false] at h
        have e3b : t.text.toList.isEmpty = false := e3
        replace h := Lib.hid h
        replace e1 := Lib.hid e1
        replace e2 := Lib.hid e2
        go_enter Try.func15, Try.ntmps15
        go_wp2_with (first | (go_at_call 31; refine name_c _ z1 _ ?_; rw [e1.out]) | (go_at_call 30; refine text_c _ z3 _ ?_; rw [e2.out]))
        exact h.out _ hst0
      have e3b : t.text.toList.isEmpty = true := e3
      rw [e1, e2, e3, Bool.true_and, Bool.true_and, Bool.true_and] at h
      replace e1 := Lib.hid e1
      replace e2 := Lib.hid e2
      cases e4 : mayAttrs t.attrs
      · rw [e4, Bool.false_and] at h
        replace h := Lib.hid h
        replace e4 := Lib.hid e4
        go_enter Try.func15, Try.ntmps15
        go_wp2_with (first | (go_at_call 31; refine name_c _ z1 _ ?_; rw [e1.out]) | (go_at_call 30; refine text_c _ z3 _ ?_; rw [e2.out]) | (go_at_call 32; refine attrMay_c M _ t.attrs _ ha1 z4.out ?_; rw [e4.out]))
        intro w1 hst1
        go_wp2
        exact h.out _ (hst0.then_ hst1)
      rw [e4, Bool.true_and] at h
      replace e4 := Lib.hid e4
      go_enter Try.func15, Try.ntmps15
      go_wp2_with (first | (go_at_call 31; refine name_c _ z1 _ ?_; rw [e1.out]) | (go_at_call 30; refine text_c _ z3 _ ?_; rw [e2.out]) | (go_at_call 32; refine attrMay_c M _ t.attrs _ ha1 z4.out ?_; rw [e4.out]))
      intro w1 hst1
      obtain ⟨c0, c1, c3, c4, sa, sk⟩ := hall.out _ hst1
      have hst01 := hst0.then_ hst1
      have hcont : ∀ (b : Bool) (_ : t.kids.all mayTree = b) (w2 : World) (R' : Ending → World → Prop), Step Nil0 w w2 → Sl w2 M (.slice K t.kids.length ck) t.kids → (∀ w', Step Nil0 w2 w' → R' (.returned (.bool (!b))) w') →
          Calls Try.prog 13 #[.slice K t.kids.length ck, .func (.func 34) #[] #[]] w2 R' := by
        intro b hb w2 R' hst2 hk2 h'
        refine containsTree_c M _ t.kids w2 hk2 _ (fun k => !mayTree k) (by intro args w'; go_simp) ?_ ?_
        · intro x hx va' vk' w3 hst3 ha' hk' R3 h3
          obtain ⟨A', ca', rfl, _⟩ := ha'.form
          obtain ⟨K', ck', rfl, _⟩ := hk'.form
          replace h3 := Lib.hid h3
          have hlt := kid_lt hx
          have hsx := z5.out x hx
          go_enter Try.func34, Try.ntmps34
          go_wp2_with (go_at_call 15; with_reducible (refine ih.out x _ _ _ (by omega) (ha'.up (Up.still ((Step.refl _ _).alloc _))) (hk'.up (Up.still ((Step.refl _ _).alloc _))) hsx _ ?_))
          intro w4 hst4
          go_wp2
          exact h3.out _ (((Step.refl _ _).alloc _).then_ hst4)
        · intro w' hw'
          have := h' w' hw'
          rwa [show t.kids.any (fun k => !mayTree k) = !b from by rw [← hb, List.not_all_eq_any_not]]
      replace hcont := Lib.hid hcont
      cases e5 : isVoid t.tag
      · rw [e5] at h
        simp only [Bool.not_false, Bool.true_or, Bool.true_and] at h
        generalize e7 : t.kids.all mayTree = b at h
        replace h := Lib.hid h
        replace e5 := Lib.hid e5
        replace e7 := Lib.hid e7
        go_wp2_with (first | (go_at_call 33; refine void_c _ _ ?_; rw [e5.out]) | (go_at_call 13; with_reducible (refine hcont.out _ e7.out _ _ hst01 sk ?_)))
        intro w2 hst2
        go_wp2
        have hr := h.out w2 (hst01.then_ hst2)
        exact hr
      · rw [e5] at h
        simp only [Bool.not_true, Bool.false_or] at h
        replace e5 := Lib.hid e5
        by_cases e6 : t.kids.length = 0
        · have e6' : (t.kids.length == 0) = true := by simpa using e6
          rw [e6', Bool.true_and] at h
          have e8 : decide (0 < (t.kids.length : Int)) = false := decide_eq_false (by omega)
          have e9 : decide (0 < t.kids.length) = false := decide_eq_false (by omega)
          generalize e7 : t.kids.all mayTree = b at h
          replace h := Lib.hid h
          replace e7 := Lib.hid e7
          clear e6 e6'
          go_wp2_with (first | (go_at_call 33; refine void_c _ _ ?_; rw [e5.out]) | (go_at_call 13; with_reducible (refine hcont.out _ e7.out _ _ hst01 sk ?_)))
          intro w2 hst2
          go_wp2
          have hr := h.out w2 (hst01.then_ hst2)
          exact hr
        · have e6' : (t.kids.length == 0) = false := by simpa using e6
          rw [e6', Bool.false_and] at h
          have e8 : decide (0 < (t.kids.length : Int)) = true := decide_eq_true (by omega)
          have e9 : decide (0 < t.kids.length) = true := decide_eq_true (by omega)
          replace h := Lib.hid h
          go_wp2_with (go_at_call 33; refine void_c _ _ ?_; rw [e5.out])
          exact h.out _ hst01
    · rw [mayTree_text e0] at h
      have e0b : t.tag.toList.isEmpty = true := e0
      have e0c := emp_true e0
      have hst0 : Step Nil0 w (w.alloc (.cells #[.string t.tag, .string t.text, .string t.key, .slice A t.attrs.length ca, .slice K t.kids.length ck] 38)) := (Step.refl _ _).alloc _
      cases e1 : emp t.key
      · rw [e1, Bool.false_and] at h
        have e1b : t.key.toList.isEmpty = false := e1
        replace h := Lib.hid h
        go_enter Try.func15, Try.ntmps15
        go_wp2
        exact h.out _ hst0
      have e1b : t.key.toList.isEmpty = true := e1
      rw [e1, Bool.true_and] at h
      cases e2 : (t.attrs.length == 0)
      · rw [e2, Bool.false_and] at h
        have e2b : ((t.attrs.length : Int) == 0) = false := by simpa using e2
        replace h := Lib.hid h
        go_enter Try.func15, Try.ntmps15
        go_wp2
        exact h.out _ hst0
      have e2b : ((t.attrs.length : Int) == 0) = true := by simpa using e2
      rw [e2, Bool.true_and] at h
      cases e3 : (t.kids.length == 0)
      · rw [e3, Bool.false_and] at h
        have e3b : ((t.kids.length : Int) == 0) = false := by simpa using e3
        replace h := Lib.hid h
        go_enter Try.func15, Try.ntmps15
        go_wp2
        exact h.out _ hst0
      have e3b : ((t.kids.length : Int) == 0) = true := by simpa using e3
      rw [e3, Bool.true_and] at h
      generalize e4 : isText t.text = b at h
      replace h := Lib.hid h
      replace e4 := Lib.hid e4
      go_enter Try.func15, Try.ntmps15
      go_wp2_with (go_at_call 30; refine text_c _ z2 _ ?_; rw [e4.out])
      exact h.out _ hst0
end Go.Proofs.Ytfbpjadigmkkkaa
