/- The reference's trees: May, Same, plain, deep. -/
import Derived.Test.YtfbpjadigmkkkaaTreea
import Derived.StillTailTactics
namespace Go.Proofs.Ytfbpjadigmkkkaa
open Go.RowKit

/-- A tree that a call was handed, in the box in which the call lays it. -/
theorem boxed {w w1 : World} {M : Nat → Prop} {t : Tree} {va vk : Value} (ha : Sl w M va t.attrs) (hk : Sl w M vk t.kids)
    (hst : Step Nil0 (w.alloc (.cells #[.string t.tag, .string t.text, .string t.key, va, vk] 38)) w1) :
    w1.cell? ⟨w.heap.size, 0, none⟩ = some (.string t.tag) ∧ w1.cell? ⟨w.heap.size, 1, none⟩ = some (.string t.text) ∧ w1.cell? ⟨w.heap.size, 2, none⟩ = some (.string t.key) ∧
      w1.cell? ⟨w.heap.size, 3, none⟩ = some va ∧ w1.cell? ⟨w.heap.size, 4, none⟩ = some vk ∧ Sl w1 M va t.attrs ∧ Sl w1 M vk t.kids := by
  have hb := (Blk.new w 38 #[.string t.tag, .string t.text, .string t.key, va, vk]).step hst (by simp [Nil0])
  have hu : Up w M w1 M := Up.still (((Step.refl _ _).alloc _).then_ hst)
  exact ⟨by rw [hb.cell]; rfl, by rw [hb.cell]; rfl, by rw [hb.cell]; rfl, by rw [hb.cell]; rfl, by rw [hb.cell]; rfl, ha.up hu, hk.up hu⟩

set_option maxHeartbeats 4000000 in
set_option maxRecDepth 100000 in
theorem rplain_c (M : Nat → Prop) (n : Nat) : ∀ (l : List Tree) (v : Value) (w : World), SizeOf.sizeOf l ≤ n → Sl w M v l →
    ∀ R : Ending → World → Prop, (∀ w', Step Nil0 w w' → R (.returned (.bool (plainTs false l))) w') →
    Calls Try.prog 19 #[v] w R := by
  induction n with
  | zero => intro l v w hn; cases l <;> simp only [List.nil.sizeOf_spec, List.cons.sizeOf_spec] at hn <;> omega
  | succ n ih =>
    intro l v w hn hl R h
    replace ih := Lib.hid ih
    replace h := Lib.hid h
    obtain ⟨A, cap, rfl, hcap, hmax⟩ := hl.form
    have hlen : l.length ≤ 9223372036854775807 := by simp only [maxLen] at hmax; omega
    clear hmax
    go_enter Try.func19, Try.ntmps19
    go_wp2
    go_loopw [3] (fun i wr => ∃ k : Nat, k ≤ l.length ∧ i = .int .i64 k ∧ Step Nil0 w wr ∧ ∃ b, plainTs false l = plainTs b (l.drop k) ∧ (k = 0 → b = false) ∧ ∀ h : k - 1 < l.length, 0 < k → b = emp l[k - 1].tag) (fun i _ => l.length - (intOf i).toNat)
    case atStart => exact ⟨0, Nat.zero_le _, rfl, Step.refl _ _, false, rfl, fun _ => rfl, fun _ h => absurd h (by omega)⟩
    case round =>
      obtain ⟨k, hk, rfl, hst, b, hb, hb0, hb1⟩ := hrel
      by_cases hlt : k < l.length
      · have hlr := hl.up (Up.still (M := M) hst)
        obtain ⟨ad, va, vk, hA, hnm, x0, x1, x2, x3, x4, ha, hkk⟩ := at_tree hlr k hlt
        subst hA
        clear hnm
        rw [List.drop_eq_getElem_cons hlt, plainTs, plainT_eq] at hb
        have hsz : SizeOf.sizeOf l[k].kids ≤ n := by
          have h1 := List.sizeOf_lt_of_mem (List.getElem_mem hlt)
          have h2 : SizeOf.sizeOf l[k].kids < SizeOf.sizeOf l[k] := by
            obtain ⟨tag, text, key, attrs, kids⟩ := l[k]
            simp only [Tree.mk.sizeOf_spec]; omega
          omega
        replace hb0 := Lib.hid hb0
        replace hb1 := Lib.hid hb1
        cases e0 : emp l[k].tag
        · have e0b : l[k].tag.toList.isEmpty = false := e0
          rw [e0] at hb
          simp only [Bool.false_and, Bool.not_false, Bool.true_and] at hb
          cases e1 : plainTs false l[k].kids
          · rw [e1, Bool.false_and] at hb
            have hno := h.out
            rw [hb] at hno
            replace hno := Lib.hid hno
            clear hb
            replace e1 := Lib.hid e1
            go_wp2_with (go_at_call 19; with_reducible (refine ih.out _ _ _ hsz hkk _ ?_))
            intro w2 hst2
            rw [e1.out]
            go_wp2
            exact hno.out _ (hst.then_ hst2)
          · rw [e1, Bool.true_and] at hb
            replace hb := Lib.hid hb
            replace e1 := Lib.hid e1
            replace e0 := Lib.hid e0
            go_wp2_with (go_at_call 19; with_reducible (refine ih.out _ _ _ hsz hkk _ ?_))
            intro w2 hst2
            rw [e1.out]
            go_wp2
            go_roundw
            case rel => exact ⟨k + 1, by omega, by go_num, hst.then_ hst2, false, hb.out, fun _ => rfl, fun _ _ => by rw [← e0.out]; rfl⟩
            case measure => simp [intOf]; omega
        · have e0b : l[k].tag.toList.isEmpty = true := e0
          have e0c := emp_true e0
          rw [e0] at hb
          cases e2 : emp l[k].text
          · have e2b : l[k].text.toList.isEmpty = false := e2
            rw [e2] at hb
            simp only [Bool.false_or, Bool.true_and] at hb
            rcases Nat.eq_zero_or_pos k with hk0 | hk0
            · obtain rfl := hb0.out hk0
              have k0a : decide (0 < (k : Int)) = false := decide_eq_false (by omega)
              have k0b : decide (0 < k) = false := decide_eq_false (by omega)
              replace hk0 := Lib.hid hk0
              simp only [Bool.not_false, Bool.true_and] at hb
              cases e1 : plainTs false l[k].kids
              · rw [e1, Bool.false_and] at hb
                have hno := h.out
                rw [hb] at hno
                replace hno := Lib.hid hno
                clear hb
                replace e1 := Lib.hid e1
                go_wp2_with (go_at_call 19; with_reducible (refine ih.out _ _ _ hsz hkk _ ?_))
                intro w2 hst2
                rw [e1.out]
                go_wp2
                exact hno.out _ (hst.then_ hst2)
              · rw [e1, Bool.true_and] at hb
                replace hb := Lib.hid hb
                replace e1 := Lib.hid e1
                replace e0 := Lib.hid e0
                go_wp2_with (go_at_call 19; with_reducible (refine ih.out _ _ _ hsz hkk _ ?_))
                intro w2 hst2
                rw [e1.out]
                go_wp2
                go_roundw
                case rel => exact ⟨k + 1, by omega, by go_num, hst.then_ hst2, true, hb.out, by omega, fun _ _ => by rw [← e0.out]; rfl⟩
                case measure => simp [intOf]; omega
            · obtain ⟨ad', va', vk', hA, hnm, y0, y1, y2, y3, y4, ha', hkk'⟩ := at_tree hlr (k - 1) (by omega)
              injection hA with hA
              subst hA
              clear hnm
              have hbk := hb1.out (by omega) hk0
              have ek : ((k : Int) - 1).toNat = k - 1 := by omega
              cases e3 : emp l[k - 1].tag
              · have e3b : l[k - 1].tag.toList.isEmpty = false := e3
                rw [hbk, e3] at hb
                clear hbk
                simp only [Bool.not_false, Bool.true_and] at hb
                cases e1 : plainTs false l[k].kids
                · rw [e1, Bool.false_and] at hb
                  have hno := h.out
                  rw [hb] at hno
                  replace hno := Lib.hid hno
                  clear hb
                  replace e1 := Lib.hid e1
                  go_wp2_with (go_at_call 19; with_reducible (refine ih.out _ _ _ hsz hkk _ ?_))
                  intro w2 hst2
                  rw [e1.out]
                  go_wp2
                  exact hno.out _ (hst.then_ hst2)
                · rw [e1, Bool.true_and] at hb
                  replace hb := Lib.hid hb
                  replace e1 := Lib.hid e1
                  replace e0 := Lib.hid e0
                  go_wp2_with (go_at_call 19; with_reducible (refine ih.out _ _ _ hsz hkk _ ?_))
                  intro w2 hst2
                  rw [e1.out]
                  go_wp2
                  go_roundw
                  case rel => exact ⟨k + 1, by omega, by go_num, hst.then_ hst2, true, hb.out, by omega, fun _ _ => by rw [← e0.out]; rfl⟩
                  case measure => simp [intOf]; omega
              · have e3b : l[k - 1].tag.toList.isEmpty = true := e3
                have e3c := emp_true e3
                rw [hbk, e3] at hb
                clear hbk
                simp only [Bool.not_true, Bool.false_and] at hb
                have hno := h.out
                rw [hb] at hno
                replace hno := Lib.hid hno
                clear hb
                go_wp2
                exact hno.out _ hst
          · have e2b : l[k].text.toList.isEmpty = true := e2
            have e2c := emp_true e2
            rw [e2] at hb
            simp only [Bool.true_or, Bool.true_and, Bool.not_true, Bool.false_and] at hb
            have hno := h.out
            rw [hb] at hno
            replace hno := Lib.hid hno
            clear hb
            go_wp2
            exact hno.out _ hst
      · rw [List.drop_of_length_le (by omega), plainTs] at hb
        have hno := h.out
        rw [hb] at hno
        replace hno := Lib.hid hno
        clear hb
        go_wp2
        exact hno.out _ hst
end Go.Proofs.Ytfbpjadigmkkkaa
