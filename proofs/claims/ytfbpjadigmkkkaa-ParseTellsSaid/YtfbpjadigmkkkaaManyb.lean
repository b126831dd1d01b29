/- How many nodes trees have, up to some: Many, All. -/
import Derived.Test.YtfbpjadigmkkkaaMany
namespace Go.Proofs.Ytfbpjadigmkkkaa
open Go.RowKit

def longT (t : Tree) : Bool := decide (100 < t.tag.size) || (decide (100 < t.text.size) || (decide (100 < t.key.size) || (fewI t.attrs == 0)))
mutual
def manyT : Tree → Int → Int
  | ⟨tag, text, key, attrs, kids⟩, m => if longT ⟨tag, text, key, attrs, []⟩ then m + 1 else manyTs kids 1 m
def manyTs : List Tree → Int → Int → Int
  | [], n, _ => n
  | t :: ts, n, m => if n ≤ m then manyTs ts (n + manyT t (m - n)) m else n
end
theorem manyT_eq (t : Tree) (m : Int) : manyT t m = if longT t then m + 1 else manyTs t.kids 1 m := by
  obtain ⟨tag, text, key, attrs, kids⟩ := t
  rw [manyT]; rfl
theorem manyTs_over (l : List Tree) (n m : Int) (h : m < n) : manyTs l n m = n := by
  cases l with
  | nil => rfl
  | cons t ts => rw [manyTs, if_neg (by omega)]
mutual
theorem manyT_le : ∀ (t : Tree) (m : Int), 0 ≤ m → 1 ≤ manyT t m ∧ manyT t m ≤ m + 1
  | ⟨tag, text, key, attrs, kids⟩, m, hm => by
    rw [manyT]
    split
    · omega
    · have := manyTs_le kids 1 m (by omega)
      omega
theorem manyTs_le : ∀ (l : List Tree) (n m : Int), n ≤ m + 1 → n ≤ manyTs l n m ∧ manyTs l n m ≤ m + 1
  | [], n, m, h => by rw [manyTs]; omega
  | t :: ts, n, m, h => by
    rw [manyTs]
    split
    · have := manyT_le t (m - n) (by omega)
      have := manyTs_le ts (n + manyT t (m - n)) m (by omega)
      omega
    · omega
end

set_option maxHeartbeats 4000000 in
set_option maxRecDepth 100000 in
theorem many_c (M : Nat → Prop) (n : Nat) : ∀ (t : Tree) (m : Int) (va vk : Value) (w : World), SizeOf.sizeOf t ≤ n → 0 ≤ m → m ≤ 1000000 → Sl w M va t.attrs → Sl w M vk t.kids → t.small 9223372036854775807 →
    ∀ R : Ending → World → Prop, (∀ w', Step Nil0 w w' → R (.returned (.int .i64 (manyT t m))) w') →
    Calls Try.prog 22 #[.agg #[.string t.tag, .string t.text, .string t.key, va, vk], .int .i64 m] w R := by
  induction n with
  | zero => intro t m va vk w hn; obtain ⟨tag, text, key, attrs, kids⟩ := t; simp only [Tree.mk.sizeOf_spec] at hn; omega
  | succ n ih =>
    intro t m va vk w hn hm0 hm1 ha hk hsm R h
    replace ih := Lib.hid ih
    obtain ⟨A, ca, rfl, hca, hma⟩ := ha.form
    obtain ⟨K, ck, rfl, hck, hmk⟩ := hk.form
    have hla : t.attrs.length ≤ 9223372036854775807 := by simp only [maxLen] at hma; omega
    have hlk : t.kids.length ≤ 9223372036854775807 := by simp only [maxLen] at hmk; omega
    clear hma hmk
    obtain ⟨z1, z2, z3, z4, z5⟩ := (Tree.small_iff t).1 hsm
    replace z5 := Lib.hid z5
    replace z4 := Lib.hid z4
    have hbx := fun (w1 : World) => boxed (w1 := w1) ha hk
    replace hbx := Lib.hid hbx
    have hst0 : Step Nil0 w (w.alloc (.cells #[.string t.tag, .string t.text, .string t.key, .slice A t.attrs.length ca, .slice K t.kids.length ck] 38)) := (Step.refl _ _).alloc _
    rw [manyT_eq] at h
    have hlong : longT t = (decide (100 < t.tag.size) || (decide (100 < t.text.size) || (decide (100 < t.key.size) || (fewI t.attrs == 0)))) := rfl
    rw [hlong] at h
    clear hlong
    obtain ⟨x0, x1, x2, x3, x4, xa, xk⟩ := hbx.out _ (Step.refl _ _)
    have hsa : ∀ a ∈ t.attrs, a.name.size ≤ 9223372036854775807 ∧ a.value.size ≤ 9223372036854775807 := z4.out
    replace hsa := Lib.hid hsa
    by_cases c1 : 100 < t.tag.size
    · have c1a : decide (100 < (t.tag.size : Int)) = true := decide_eq_true (by omega)
      have c1b : decide (100 < t.tag.size) = true := decide_eq_true c1
      rw [c1b, Bool.true_or, if_pos rfl] at h
      replace h := Lib.hid h
      go_enter Try.func22, Try.ntmps22
      go_wp2
      exact h.out _ hst0
    have c1a : decide (100 < (t.tag.size : Int)) = false := decide_eq_false (by omega)
    have c1b : decide (100 < t.tag.size) = false := decide_eq_false c1
    rw [c1b, Bool.false_or] at h
    by_cases c2 : 100 < t.text.size
    · have c2a : decide (100 < (t.text.size : Int)) = true := decide_eq_true (by omega)
      have c2b : decide (100 < t.text.size) = true := decide_eq_true c2
      rw [c2b, Bool.true_or, if_pos rfl] at h
      replace h := Lib.hid h
      go_enter Try.func22, Try.ntmps22
      go_wp2
      exact h.out _ hst0
    have c2a : decide (100 < (t.text.size : Int)) = false := decide_eq_false (by omega)
    have c2b : decide (100 < t.text.size) = false := decide_eq_false c2
    rw [c2b, Bool.false_or] at h
    by_cases c3 : 100 < t.key.size
    · have c3a : decide (100 < (t.key.size : Int)) = true := decide_eq_true (by omega)
      have c3b : decide (100 < t.key.size) = true := decide_eq_true c3
      rw [c3b, Bool.true_or, if_pos rfl] at h
      replace h := Lib.hid h
      go_enter Try.func22, Try.ntmps22
      go_wp2
      exact h.out _ hst0
    have c3a : decide (100 < (t.key.size : Int)) = false := decide_eq_false (by omega)
    have c3b : decide (100 < t.key.size) = false := decide_eq_false c3
    rw [c3b, Bool.false_or] at h
    cases c4 : (fewI t.attrs == 0)
    case true =>
      rw [c4, if_pos rfl] at h
      replace h := Lib.hid h
      go_enter Try.func22, Try.ntmps22
      go_wp2_with (go_at_call 44; with_reducible (refine few_c M _ _ _ xa hsa.out ?_))
      intro w1 hst1
      go_wp2
      exact h.out _ (hst0.then_ hst1)
    rw [c4, if_neg (by decide)] at h
    replace h := Lib.hid h
    go_enter Try.func22, Try.ntmps22
    go_wp2_with (go_at_call 44; with_reducible (refine few_c M _ _ _ xa hsa.out ?_))
    intro w1 hst1
    go_wp2
    have hs1 : Step Nil0 w w1 := hst0.then_ hst1
    go_loopw [5, 6] (fun s i wr => ∃ (k : Nat) (q : Int), k ≤ t.kids.length ∧ i = .int .i64 k ∧ s = .int .i64 q ∧ 1 ≤ q ∧ q ≤ m + 1 ∧ Step Nil0 w1 wr ∧ manyTs t.kids 1 m = manyTs (t.kids.drop k) q m) (fun _ i _ => t.kids.length - (intOf i).toNat)
    case atStart => exact ⟨0, 1, Nat.zero_le _, rfl, rfl, by omega, by omega, Step.refl _ _, rfl⟩
    case round =>
      obtain ⟨k, q, hk2, rfl, rfl, hq0, hq1, hst, hq⟩ := hrel
      have hst01 : Step Nil0 w wr := hs1.then_ hst
      obtain ⟨y0, y1, y2, y3, y4, ya, yk⟩ := hbx.out wr (hst1.then_ hst)
      by_cases hlt : k < t.kids.length
      · have t0a : decide ((k : Int) < (t.kids.length : Int)) = true := decide_eq_true (by omega)
        have t0b : decide (k < t.kids.length) = true := decide_eq_true hlt
        rw [List.drop_eq_getElem_cons hlt, manyTs] at hq
        by_cases hqm : q ≤ m
        · have t1a : decide (q ≤ m) = true := decide_eq_true hqm
          rw [if_pos hqm] at hq
          obtain ⟨ad, va', vk', hA, hnm, u0, u1, u2, u3, u4, xa', xk'⟩ := at_tree yk k hlt
          subst hA
          clear hnm
          have hsz : SizeOf.sizeOf t.kids[k] ≤ n := by have := kid_lt (List.getElem_mem hlt); omega
          have hzk := z5.out _ (List.getElem_mem hlt)
          have hml := manyT_le t.kids[k] (m - q) (by omega)
          replace hq := Lib.hid hq
          replace hzk := Lib.hid hzk
          generalize hr : manyT t.kids[k] (m - q) = r at hml
          replace hr := Lib.hid hr
          obtain ⟨A', ca', rfl, _⟩ := xa'.form
          obtain ⟨K', ck', rfl, _⟩ := xk'.form
          go_wp2_with (go_at_call 22; with_reducible (refine ih.out _ _ _ _ _ hsz ?c1 ?c2 xa' xk' hzk.out _ ?_))
          case c1 => omega
          case c2 => omega
          intro w2 hst2
          rw [hr.out]
          go_wp2
          go_roundw
          case rel => exact ⟨k + 1, q + r, by omega, by go_num, by go_num, by omega, by omega, hst.then_ hst2, by rw [hq.out, hr.out]⟩
          case measure => simp [intOf]; omega
        · have t1a : decide (q ≤ m) = false := decide_eq_false hqm
          rw [if_neg hqm] at hq
          have hno := h.out
          rw [hq] at hno
          replace hno := Lib.hid hno
          replace hq := Lib.hid hq
          go_wp2
          exact hno.out _ hst01
      · have t0a : decide ((k : Int) < (t.kids.length : Int)) = false := decide_eq_false (by omega)
        have t0b : decide (k < t.kids.length) = false := decide_eq_false hlt
        rw [List.drop_of_length_le (by omega), manyTs] at hq
        have hno := h.out
        rw [hq] at hno
        replace hno := Lib.hid hno
        replace hq := Lib.hid hq
        go_wp2
        exact hno.out _ hst01

set_option maxHeartbeats 4000000 in
set_option maxRecDepth 100000 in
theorem manyAll_c (M : Nat → Prop) (l : List Tree) (m : Int) (v : Value) (w : World) (hm0 : 0 ≤ m) (hm1 : m ≤ 1000000) (hl : Sl w M v l) (hsm : ∀ t ∈ l, t.small 9223372036854775807) {R : Ending → World → Prop}
    (h : ∀ w', Step Nil0 w w' → R (.returned (.int .i64 (manyTs l 0 m))) w') : Calls Try.prog 10 #[v, .int .i64 m] w R := by
  obtain ⟨A, cap, rfl, hcap, hmax⟩ := hl.form
  have hlen : l.length ≤ 9223372036854775807 := by simp only [maxLen] at hmax; omega
  clear hmax
  replace h := Lib.hid h
  go_enter Try.func10, Try.ntmps10
  go_wp2
  go_loopw [5, 6] (fun s i wr => ∃ (k : Nat) (q : Int), k ≤ l.length ∧ i = .int .i64 k ∧ s = .int .i64 q ∧ 0 ≤ q ∧ q ≤ m + 1 ∧ Step Nil0 w wr ∧ manyTs l 0 m = manyTs (l.drop k) q m) (fun _ i _ => l.length - (intOf i).toNat)
  case atStart => exact ⟨0, 0, Nat.zero_le _, rfl, rfl, by omega, by omega, Step.refl _ _, rfl⟩
  case round =>
    obtain ⟨k, q, hk2, rfl, rfl, hq0, hq1, hst, hq⟩ := hrel
    have yl := hl.up (Up.still (M := M) hst)
    by_cases hlt : k < l.length
    · have t0a : decide ((k : Int) < (l.length : Int)) = true := decide_eq_true (by omega)
      have t0b : decide (k < l.length) = true := decide_eq_true hlt
      rw [List.drop_eq_getElem_cons hlt, manyTs] at hq
      by_cases hqm : q ≤ m
      · have t1a : decide (q ≤ m) = true := decide_eq_true hqm
        rw [if_pos hqm] at hq
        obtain ⟨ad, va', vk', hA, hnm, u0, u1, u2, u3, u4, xa', xk'⟩ := at_tree yl k hlt
        subst hA
        clear hnm
        have hzk := hsm _ (List.getElem_mem hlt)
        have hml := manyT_le l[k] (m - q) (by omega)
        replace hq := Lib.hid hq
        replace hzk := Lib.hid hzk
        generalize hr : manyT l[k] (m - q) = r at hml
        replace hr := Lib.hid hr
        obtain ⟨A', ca', rfl, _⟩ := xa'.form
        obtain ⟨K', ck', rfl, _⟩ := xk'.form
        go_wp2_with (go_at_call 22; with_reducible (refine many_c M _ _ _ _ _ _ (Nat.le_refl _) ?c1 ?c2 xa' xk' hzk.out _ ?_))
        case c1 => omega
        case c2 => omega
        intro w2 hst2
        rw [hr.out]
        go_wp2
        go_roundw
        case rel => exact ⟨k + 1, q + r, by omega, by go_num, by go_num, by omega, by omega, hst.then_ hst2, by rw [hq.out, hr.out]⟩
        case measure => simp [intOf]; omega
      · have t1a : decide (q ≤ m) = false := decide_eq_false hqm
        rw [if_neg hqm] at hq
        have hno := h.out
        rw [hq] at hno
        replace hno := Lib.hid hno
        replace hq := Lib.hid hq
        go_wp2
        exact hno.out _ hst
    · have t0a : decide ((k : Int) < (l.length : Int)) = false := decide_eq_false (by omega)
      have t0b : decide (k < l.length) = false := decide_eq_false hlt
      rw [List.drop_of_length_le (by omega), manyTs] at hq
      have hno := h.out
      rw [hq] at hno
      replace hno := Lib.hid hno
      replace hq := Lib.hid hq
      go_wp2
      exact hno.out _ hst

/-! ### serial.All -/
set_option maxHeartbeats 4000000 in
set_option maxRecDepth 100000 in
theorem serialAll_c (M : Nat → Prop) (l : List Tree) (v : Value) (w : World) (hl : Sl w M v l) (hlen2 : (l.flatMap htmlT).length ≤ 20000000000000) {R : Ending → World → Prop}
    (h : ∀ w', Step Nil0 w w' → R (.returned (.string ⟨(l.flatMap htmlT).toArray⟩)) w') : Calls Try.prog 11 #[v] w R := by
  obtain ⟨A, cap, rfl, hcap, hmax⟩ := hl.form
  have hlen : l.length ≤ 9223372036854775807 := by simp only [maxLen] at hmax; omega
  clear hmax
  replace h := Lib.hid h
  have hb0 := Bld.new w w.heap.size (Nat.le_refl _)
  have hup0 : Up w Nil0 (w.alloc (.cells #[.pointer none, .slice none 0 0] 55)) (One w.heap.size) := ⟨(Step.refl _ _).alloc _, fun b hb hm => absurd hm (by simp only [One]; omega)⟩
  have hl0 : Sl w Nil0 (.slice A l.length cap) l := hl.step0 (fun _ _ _ => rfl) (fun _ _ hm => hm.elim)
  go_enter Try.func11, Try.ntmps11
  go_wp2
  go_loopw [8] (fun i wr => ∃ (k : Nat) (M2 : Nat → Prop), k ≤ l.length ∧ i = .int .i64 k ∧ Up w Nil0 wr M2 ∧ Bld wr w.heap.size w.heap.size M2 ((l.take k).flatMap htmlT)) (fun i _ => l.length - (intOf i).toNat)
  case atStart => exact ⟨0, _, Nat.zero_le _, rfl, hup0, by simpa using hb0⟩
  case round =>
    obtain ⟨k, M2, hk2, rfl, hup, hb⟩ := hrel
    have hsz := hup.step.size
    by_cases hlt : k < l.length
    · obtain ⟨ad, va', vk', hA, hnm, x0, x1, x2, x3, x4, xa', xk'⟩ := at_tree (hl0.up hup) k hlt
      subst hA
      clear hnm
      have htk : (l.take (k + 1)).flatMap htmlT = (l.take k).flatMap htmlT ++ htmlT l[k] := by
        rw [List.take_succ_eq_append_getElem hlt, List.flatMap_append, List.flatMap_singleton]
      have hle : ((l.take (k + 1)).flatMap htmlT).length ≤ (l.flatMap htmlT).length := by
        have e2 : l.flatMap htmlT = (l.take (k + 1)).flatMap htmlT ++ (l.drop (k + 1)).flatMap htmlT := by rw [← List.flatMap_append, List.take_append_drop]
        rw [e2, List.length_append]; omega
      rw [htk, List.length_append] at hle
      have hl5 : ((l.take k).flatMap htmlT).length + (htmlT l[k]).length ≤ 20000000000000 := by omega
      replace htk := Lib.hid htk
      obtain ⟨A', ca', rfl, _⟩ := xa'.form
      obtain ⟨K', ck', rfl, _⟩ := xk'.form
      go_wp2_with (go_at_call 23; with_reducible (refine write_c _ _ _ _ _ _ _ M2 _ (Nat.le_refl _) (xa'.up ((Up.refl _ _).alloc _)) (xk'.up ((Up.refl _ _).alloc _)) (hb.alloc _) (by simp; omega) hl5 _ ?_))
      intro w5 M5 hup5 hb5
      go_wp2
      go_roundw
      case rel => exact ⟨k + 1, M5, by omega, by go_num, (hup.alloc _).trans hup5, by rw [htk.out]; exact hb5⟩
      case measure => simp [intOf]; omega
    · rw [List.take_of_length_le (by omega)] at hb
      go_wp2_with (go_at_call 24; refine builder_string _ _ M2 _ _ hb hsz ?_)
      intro w1 hb1
      have hst : Step Nil0 w w1 := hup.step.trans (Step.of_belowB (M := fun b => w.heap.size ≤ b) hb1 (fun b _ hb => hb)) (fun b hb hm => absurd hm (by omega))
      go_wp2
      exact h.out _ hst
end Go.Proofs.Ytfbpjadigmkkkaa
