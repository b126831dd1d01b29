/- The reference's trees: deep, Same, May. -/
import Derived.Test.YtfbpjadigmkkkaaTreeb
namespace Go.Proofs.Ytfbpjadigmkkkaa
open Go.RowKit

theorem deepTs_take (l : List Tree) (k : Nat) (hk : k < l.length) : deepTs (l.take (k + 1)) = max (deepTs (l.take k)) (deepT l[k]) := by
  rw [List.take_succ_eq_append_getElem hk, deepTs_append]
  simp [deepTs]
theorem deepT_le (l : List Tree) (k : Nat) (hk : k < l.length) : deepT l[k] ≤ deepTs l := by
  have h1 := deepTs_take l k hk
  have h2 := deepTs_append (l.take (k + 1)) (l.drop (k + 1))
  rw [List.take_append_drop] at h2
  omega

theorem kids_lt {l : List Tree} {n k : Nat} (hk : k < l.length) (hn : SizeOf.sizeOf l ≤ n + 1) : SizeOf.sizeOf l[k].kids ≤ n := by
  have h1 := List.sizeOf_lt_of_mem (List.getElem_mem hk)
  have h2 : SizeOf.sizeOf l[k].kids < SizeOf.sizeOf l[k] := by
    obtain ⟨tag, text, key, attrs, kids⟩ := l[k]
    simp only [Tree.mk.sizeOf_spec]; omega
  omega

set_option maxHeartbeats 4000000 in
set_option maxRecDepth 100000 in
theorem rdeep_c (M : Nat → Prop) (n : Nat) : ∀ (l : List Tree) (v : Value) (w : World), SizeOf.sizeOf l ≤ n → Sl w M v l → deepTs l ≤ 1000000000 →
    ∀ R : Ending → World → Prop, (∀ w', Step Nil0 w w' → R (.returned (.int .i64 (deepTs l : Int))) w') →
    Calls Try.prog 20 #[v] w R := by
  induction n with
  | zero => intro l v w hn; cases l <;> simp only [List.nil.sizeOf_spec, List.cons.sizeOf_spec] at hn <;> omega
  | succ n ih =>
    intro l v w hn hl hd R h
    replace ih := Lib.hid ih
    replace h := Lib.hid h
    obtain ⟨A, cap, rfl, hcap, hmax⟩ := hl.form
    have hlen : l.length ≤ 9223372036854775807 := by simp only [maxLen] at hmax; omega
    clear hmax
    go_enter Try.func20, Try.ntmps20
    go_wp2
    go_loopw [3, 4] (fun m i wr => ∃ k : Nat, k ≤ l.length ∧ i = .int .i64 k ∧ Step Nil0 w wr ∧ m = .int .i64 (deepTs (l.take k) : Int)) (fun _ i _ => l.length - (intOf i).toNat)
    case atStart => exact ⟨0, Nat.zero_le _, rfl, Step.refl _ _, rfl⟩
    case round =>
      obtain ⟨k, hk, rfl, hst, rfl⟩ := hrel
      by_cases hlt : k < l.length
      · have hlr := hl.up (Up.still (M := M) hst)
        obtain ⟨ad, va, vk, hA, hnm, x0, x1, x2, x3, x4, ha, hkk⟩ := at_tree hlr k hlt
        subst hA
        clear hnm
        have hsz := kids_lt hlt hn
        have htk := deepTs_take l k hlt
        have hle := deepT_le l k hlt
        rw [deepT_eq] at htk hle
        have hd2 : deepTs l[k].kids ≤ 1000000000 := by omega
        generalize hm : deepTs (l.take k) = m at htk
        generalize hq : deepTs l[k].kids = q at htk hd2 hle
        replace hq := Lib.hid hq
        clear hm
        cases e0 : emp l[k].tag
        · have e0b : l[k].tag.toList.isEmpty = false := e0
          rw [e0] at htk hle
          simp only [Bool.false_eq_true, if_false] at htk hle
          by_cases hgt : m < 1 + q
          · have g1 : decide ((m : Int) < (q : Int) + 1) = true := decide_eq_true (by omega)
            have htk' : deepTs (l.take (k + 1)) = 1 + q := by omega
            replace htk' := Lib.hid htk'
            clear htk
            go_wp2_with (go_at_call 20; with_reducible (refine ih.out _ _ _ hsz hkk (by rw [hq.out]; exact hd2) _ ?_))
            intro w2 hst2
            have y0 := hst2.cell x0 (by simp [Nil0])
            rw [hq.out]
            go_wp2
            go_roundw
            case rel => exact ⟨k + 1, by omega, by go_num, hst.then_ hst2, by rw [htk'.out]; go_num⟩
            case measure => simp [intOf]; omega
          · have g1 : decide ((m : Int) < (q : Int) + 1) = false := decide_eq_false (by omega)
            have htk' : deepTs (l.take (k + 1)) = m := by omega
            replace htk' := Lib.hid htk'
            clear htk
            go_wp2_with (go_at_call 20; with_reducible (refine ih.out _ _ _ hsz hkk (by rw [hq.out]; exact hd2) _ ?_))
            intro w2 hst2
            have y0 := hst2.cell x0 (by simp [Nil0])
            rw [hq.out]
            go_wp2
            go_roundw
            case rel => exact ⟨k + 1, by omega, by go_num, hst.then_ hst2, by rw [htk'.out]⟩
            case measure => simp [intOf]; omega
        · have e0b : l[k].tag.toList.isEmpty = true := e0
          have e0c := emp_true e0
          rw [e0] at htk hle
          simp only [if_true] at htk hle
          by_cases hgt : m < q
          · have g1 : decide ((m : Int) < (q : Int)) = true := decide_eq_true (by omega)
            have g2 : decide (m < q) = true := decide_eq_true hgt
            have htk' : deepTs (l.take (k + 1)) = q := by omega
            replace htk' := Lib.hid htk'
            clear htk
            go_wp2_with (go_at_call 20; with_reducible (refine ih.out _ _ _ hsz hkk (by rw [hq.out]; exact hd2) _ ?_))
            intro w2 hst2
            have y0 := hst2.cell x0 (by simp [Nil0])
            rw [hq.out]
            go_wp2
            go_roundw
            case rel => exact ⟨k + 1, by omega, by go_num, hst.then_ hst2, by rw [htk'.out]⟩
            case measure => simp [intOf]; omega
          · have g1 : decide ((m : Int) < (q : Int)) = false := decide_eq_false (by omega)
            have g2 : decide (m < q) = false := decide_eq_false hgt
            have htk' : deepTs (l.take (k + 1)) = m := by omega
            replace htk' := Lib.hid htk'
            clear htk
            go_wp2_with (go_at_call 20; with_reducible (refine ih.out _ _ _ hsz hkk (by rw [hq.out]; exact hd2) _ ?_))
            intro w2 hst2
            have y0 := hst2.cell x0 (by simp [Nil0])
            rw [hq.out]
            go_wp2
            go_roundw
            case rel => exact ⟨k + 1, by omega, by go_num, hst.then_ hst2, by rw [htk'.out]⟩
            case measure => simp [intOf]; omega
      · have hno := h.out
        rw [← List.take_of_length_le (l := l) (i := k) (by omega)] at hno
        replace hno := Lib.hid hno
        go_wp2
        exact hno.out _ hst

set_option maxHeartbeats 4000000 in
set_option maxRecDepth 100000 in
theorem rsameT_c (M : Nat → Prop) (n : Nat) : ∀ (a b : Tree) (va vk ua uk : Value) (w : World), SizeOf.sizeOf a ≤ n → Sl w M va a.attrs → Sl w M vk a.kids → Sl w M ua b.attrs → Sl w M uk b.kids →
    ∀ R : Ending → World → Prop, (∀ w', Step Nil0 w w' → R (.returned (.bool (decide (a = b)))) w') →
    Calls Try.prog 21 #[.agg #[.string a.tag, .string a.text, .string a.key, va, vk], .agg #[.string b.tag, .string b.text, .string b.key, ua, uk]] w R := by
  induction n with
  | zero => intro t u va vk ua uk w hn; obtain ⟨tag, text, key, attrs, kids⟩ := t; simp only [Tree.mk.sizeOf_spec] at hn; omega
  | succ n ih =>
    intro a b va vk ua uk w hn hva hvk hua huk R h
    replace ih := Lib.hid ih
    obtain ⟨A, ca, rfl, hca, hma⟩ := hva.form
    obtain ⟨K, ck, rfl, hck, hmk⟩ := hvk.form
    obtain ⟨B, cb, rfl, hcb, hmb⟩ := hua.form
    obtain ⟨L, cl, rfl, hcl, hml⟩ := huk.form
    have hlk : a.kids.length ≤ 9223372036854775807 := by simp only [maxLen] at hmk; omega
    have hll : b.kids.length ≤ 9223372036854775807 := by simp only [maxLen] at hml; omega
    clear hma hmk hmb hml
    generalize hw0 : w.alloc (.cells #[.string a.tag, .string a.text, .string a.key, .slice A a.attrs.length ca, .slice K a.kids.length ck] 38) = w0
    have hst0 : Step Nil0 w w0 := by rw [← hw0]; exact (Step.refl _ _).alloc _
    have hua0 := hua.up (Up.still (M := M) hst0)
    have huk0 := huk.up (Up.still (M := M) hst0)
    have hs0 : w0.heap.size = w.heap.size + 1 := by rw [← hw0]; simp
    have hst1 : Step Nil0 w0 (w0.alloc (.cells #[.string b.tag, .string b.text, .string b.key, .slice B b.attrs.length cb, .slice L b.kids.length cl] 38)) := (Step.refl _ _).alloc _
    have hall : ∀ w1, Step Nil0 (w0.alloc (.cells #[.string b.tag, .string b.text, .string b.key, .slice B b.attrs.length cb, .slice L b.kids.length cl] 38)) w1 →
        (w1.cell? ⟨w.heap.size, 0, none⟩ = some (.string a.tag) ∧ w1.cell? ⟨w.heap.size, 1, none⟩ = some (.string a.text) ∧ w1.cell? ⟨w.heap.size, 2, none⟩ = some (.string a.key) ∧
        w1.cell? ⟨w.heap.size, 3, none⟩ = some (.slice A a.attrs.length ca) ∧ w1.cell? ⟨w.heap.size, 4, none⟩ = some (.slice K a.kids.length ck) ∧ Sl w1 M (.slice A a.attrs.length ca) a.attrs ∧ Sl w1 M (.slice K a.kids.length ck) a.kids) ∧
        (w1.cell? ⟨w.heap.size + 1, 0, none⟩ = some (.string b.tag) ∧ w1.cell? ⟨w.heap.size + 1, 1, none⟩ = some (.string b.text) ∧ w1.cell? ⟨w.heap.size + 1, 2, none⟩ = some (.string b.key) ∧
        w1.cell? ⟨w.heap.size + 1, 3, none⟩ = some (.slice B b.attrs.length cb) ∧ w1.cell? ⟨w.heap.size + 1, 4, none⟩ = some (.slice L b.kids.length cl) ∧ Sl w1 M (.slice B b.attrs.length cb) b.attrs ∧ Sl w1 M (.slice L b.kids.length cl) b.kids) := by
      intro w1 hst
      have h1 := boxed (t := a) hva hvk (w1 := w1) (by rw [hw0]; exact hst1.then_ hst)
      have h2 := boxed (t := b) hua0 huk0 hst
      rw [hs0] at h2
      exact ⟨h1, h2⟩
    replace hall := Lib.hid hall
    have hst01 := hst0.then_ hst1
    subst hw0
    have hva2 := (hall.out _ (Step.refl _ _)).1.2.2.2.2.2.1
    have hua2 := (hall.out _ (Step.refl _ _)).2.2.2.2.2.2.1
    clear hua0 huk0 hs0 hst1 hst0
    have hab : a = b ↔ a.attrs = b.attrs ∧ a.tag = b.tag ∧ a.text = b.text ∧ a.key = b.key ∧ a.kids = b.kids := by
      obtain ⟨x1, x2, x3, x4, x5⟩ := a
      obtain ⟨y1, y2, y3, y4, y5⟩ := b
      simp only [Tree.mk.injEq]
      constructor
      · rintro ⟨h1, h2, h3, h4, h5⟩; exact ⟨h4, h1, h2, h3, h5⟩
      · rintro ⟨h4, h1, h2, h3, h5⟩; exact ⟨h1, h2, h3, h4, h5⟩
    replace hab := Lib.hid hab
    by_cases e0 : a.attrs = b.attrs
    · cases e1 : (a.tag.toList == b.tag.toList)
      · have hno := h
        rw [decide_eq_false (fun e => by have := (hab.out.1 e).2.1; rw [this] at e1; simp at e1)] at hno
        replace hno := Lib.hid hno
        clear h
        replace e0 := Lib.hid e0
        have e1b : (a.tag.toList != b.tag.toList) = true := by simp [bne, e1]
        go_enter Try.func21, Try.ntmps21
        go_wp2_with (go_at_call 43; with_reducible (refine rsame_c M _ _ a.attrs b.attrs _ hva2 hua2 ?_); rw [decide_eq_true e0.out])
        intro w1 hst1
        obtain ⟨⟨c0, c1, c2, c3, c4, sa, sk⟩, ⟨d0, d1, d2, d3, d4, ta, tk⟩⟩ := hall.out _ hst1
        go_wp2
        exact hno.out _ (hst01.then_ hst1)
      have e1b : (a.tag.toList != b.tag.toList) = false := by simp [bne, e1]
      cases e2 : (a.text.toList == b.text.toList)
      · have hno := h
        rw [decide_eq_false (fun e => by have := (hab.out.1 e).2.2.1; rw [this] at e2; simp at e2)] at hno
        replace hno := Lib.hid hno
        clear h
        replace e0 := Lib.hid e0
        have e2b : (a.text.toList != b.text.toList) = true := by simp [bne, e2]
        go_enter Try.func21, Try.ntmps21
        go_wp2_with (go_at_call 43; with_reducible (refine rsame_c M _ _ a.attrs b.attrs _ hva2 hua2 ?_); rw [decide_eq_true e0.out])
        intro w1 hst1
        obtain ⟨⟨c0, c1, c2, c3, c4, sa, sk⟩, ⟨d0, d1, d2, d3, d4, ta, tk⟩⟩ := hall.out _ hst1
        go_wp2
        exact hno.out _ (hst01.then_ hst1)
      have e2b : (a.text.toList != b.text.toList) = false := by simp [bne, e2]
      cases e3 : (a.key.toList == b.key.toList)
      · have hno := h
        rw [decide_eq_false (fun e => by have := (hab.out.1 e).2.2.2.1; rw [this] at e3; simp at e3)] at hno
        replace hno := Lib.hid hno
        clear h
        replace e0 := Lib.hid e0
        have e3b : (a.key.toList != b.key.toList) = true := by simp [bne, e3]
        go_enter Try.func21, Try.ntmps21
        go_wp2_with (go_at_call 43; with_reducible (refine rsame_c M _ _ a.attrs b.attrs _ hva2 hua2 ?_); rw [decide_eq_true e0.out])
        intro w1 hst1
        obtain ⟨⟨c0, c1, c2, c3, c4, sa, sk⟩, ⟨d0, d1, d2, d3, d4, ta, tk⟩⟩ := hall.out _ hst1
        go_wp2
        exact hno.out _ (hst01.then_ hst1)
      have e3b : (a.key.toList != b.key.toList) = false := by simp [bne, e3]
      by_cases e4 : a.kids.length = b.kids.length
      · have e4b : ((a.kids.length : Int) != (b.kids.length : Int)) = false := by simp [e4]
        have e4c : (a.kids.length != b.kids.length) = false := by simp [e4]
        have hkk : a = b ↔ a.kids = b.kids := by
          rw [hab.out]
          exact ⟨fun e => e.2.2.2.2, fun e => ⟨e0, str_eq (by simpa using e1), str_eq (by simpa using e2), str_eq (by simpa using e3), e⟩⟩
        have hd : decide (a = b) = decide (a.kids = b.kids) := decide_eq_decide.2 hkk
        have hh := h
        rw [hd] at hh
        clear hd
        replace hh := Lib.hid hh
        clear h
        replace e0 := Lib.hid e0
        have le1 : a.kids.length ≤ b.kids.length := by omega
        have le2 : b.kids.length ≤ a.kids.length := by omega
        replace e4 := Lib.hid e4
        go_enter Try.func21, Try.ntmps21
        go_wp2_with (go_at_call 43; with_reducible (refine rsame_c M _ _ a.attrs b.attrs _ hva2 hua2 ?_); rw [decide_eq_true e0.out])
        intro w1 hst1
        obtain ⟨⟨c0, c1, c2, c3, c4, sa, sk⟩, ⟨d0, d1, d2, d3, d4, ta, tk⟩⟩ := hall.out _ hst1
        go_wp2
        go_loopw [6] (fun i wr => ∃ k : Nat, k ≤ a.kids.length ∧ i = .int .i64 k ∧ Step Nil0 w1 wr ∧ a.kids.take k = b.kids.take k) (fun i _ => a.kids.length - (intOf i).toNat)
        case atStart => exact ⟨0, Nat.zero_le _, rfl, Step.refl _ _, rfl⟩
        case round =>
          obtain ⟨k, hk, rfl, hst, htk⟩ := hrel
          replace htk := Lib.hid htk
          obtain ⟨⟨f0, f1, f2, f3, f4, xa, xk⟩, ⟨g0, g1, g2, g3, g4, ya, yk⟩⟩ := hall.out _ (hst1.then_ hst)
          by_cases hlt : k < a.kids.length
          · have hlt2 : k < b.kids.length := by omega
            obtain ⟨ad, va', vk', hA, hnm, x0, x1, x2, x3, x4, xa', xk'⟩ := at_tree xk k hlt
            subst hA
            clear hnm
            obtain ⟨bd, ua', uk', hA, hnm, y0, y1, y2, y3, y4, ya', yk'⟩ := at_tree yk k hlt2
            subst hA
            clear hnm
            have hsz : SizeOf.sizeOf a.kids[k] ≤ n := by have := kid_lt (List.getElem_mem hlt); omega
            have hih : ∀ (wx : World) (R' : Ending → World → Prop), Step Nil0 wr wx → (∀ w', Step Nil0 wx w' → R' (.returned (.bool (decide (a.kids[k] = b.kids[k])))) w') →
                Calls Try.prog 21 #[.agg #[.string a.kids[k].tag, .string a.kids[k].text, .string a.kids[k].key, va', vk'], .agg #[.string b.kids[k].tag, .string b.kids[k].text, .string b.kids[k].key, ua', uk']] wx R' := fun wx R' hx h' =>
              ih.out _ _ _ _ _ _ _ hsz (xa'.up (Up.still hx)) (xk'.up (Up.still hx)) (ya'.up (Up.still hx)) (yk'.up (Up.still hx)) R' h'
            replace hih := Lib.hid hih
            have hnx : a.kids[k] = b.kids[k] → a.kids.take (k + 1) = b.kids.take (k + 1) := fun e => by
              rw [List.take_succ_eq_append_getElem hlt, List.take_succ_eq_append_getElem hlt2, htk.out, e]
            replace hnx := Lib.hid hnx
            generalize hdk : decide (a.kids[k] = b.kids[k]) = dk at hih
            replace hdk := Lib.hid hdk
            go_wp2
            go_still_tail 10, (by kernel_rfl)
            change wpList _ _ _ _ _ wr.drew
            go_wp2_with (go_at_call 21; with_reducible (refine hih.out _ _ ((Step.refl _ _).drew) ?_))
            intro w2 hst2
            have hst12 := hst.then_ (((Step.refl Nil0 wr).drew).then_ hst2)
            cases dk
            · have hno := hh.out
              rw [decide_eq_false (fun e => by have := of_decide_eq_false hdk.out; apply this; simp only [e])] at hno
              replace hno := Lib.hid hno
              go_wp2
              exact hno.out _ ((hst01.then_ hst1).then_ hst12)
            · go_wp2
              go_roundw
              case rel => exact ⟨k + 1, by omega, by go_num, hst12, hnx.out (of_decide_eq_true hdk.out)⟩
              case measure => simp [intOf]; omega
          · have hno := hh.out
            rw [decide_eq_true (by have := htk.out; rwa [List.take_of_length_le (by omega), List.take_of_length_le (by omega)] at this)] at hno
            replace hno := Lib.hid hno
            go_wp2
            exact hno.out _ ((hst01.then_ hst1).then_ hst)
      · have e4b : ((a.kids.length : Int) != (b.kids.length : Int)) = true := by simp; omega
        have e4c : (a.kids.length != b.kids.length) = true := by simp [e4]
        have hno := h
        rw [decide_eq_false (fun e => e4 (by rw [(hab.out.1 e).2.2.2.2]))] at hno
        replace hno := Lib.hid hno
        clear h
        replace e0 := Lib.hid e0
        go_enter Try.func21, Try.ntmps21
        go_wp2_with (go_at_call 43; with_reducible (refine rsame_c M _ _ a.attrs b.attrs _ hva2 hua2 ?_); rw [decide_eq_true e0.out])
        intro w1 hst1
        obtain ⟨⟨c0, c1, c2, c3, c4, sa, sk⟩, ⟨d0, d1, d2, d3, d4, ta, tk⟩⟩ := hall.out _ hst1
        go_wp2
        exact hno.out _ (hst01.then_ hst1)
    · have hno := h
      rw [decide_eq_false (fun e => e0 (hab.out.1 e).1)] at hno
      replace hno := Lib.hid hno
      clear h
      replace e0 := Lib.hid e0
      go_enter Try.func21, Try.ntmps21
      go_wp2_with (go_at_call 43; with_reducible (refine rsame_c M _ _ a.attrs b.attrs _ hva2 hua2 ?_); rw [decide_eq_false e0.out])
      intro w1 hst1
      go_wp2
      exact hno.out _ (hst01.then_ hst1)

theorem ralike_c (M : Nat → Prop) (a b : List Tree) (v u : Value) (w : World) (hv : Sl w M v a) (hu : Sl w M u b) {R : Ending → World → Prop}
    (h : ∀ w', Step Nil0 w w' → R (.returned (.bool (decide (a = b)))) w') : Calls Try.prog 9 #[v, u] w R := by
  replace h := Lib.hid h
  obtain ⟨A, ca, rfl, _⟩ := hv.form
  obtain ⟨B, cb, rfl, _⟩ := hu.form
  have hc := fun (wx : World) (R' : Ending → World → Prop) (hx : Step Nil0 w wx) => rsameT_c M _ ⟨⟨#[]⟩, ⟨#[]⟩, ⟨#[]⟩, [], a⟩ ⟨⟨#[]⟩, ⟨#[]⟩, ⟨#[]⟩, [], b⟩ (.slice none 0 0) (.slice A a.length ca) (.slice none 0 0) (.slice B b.length cb) wx (Nat.le_refl _) (Sl.nil _ _) (hv.up (Up.still hx)) (Sl.nil _ _) (hu.up (Up.still hx)) R'
  replace hc := Lib.hid hc
  go_enter Try.func9, Try.ntmps9
  go_wp2_with (go_at_call 21; with_reducible (refine hc.out _ _ ?_ ?_))
  · exact Step.refl _ _
  · intro w' hst
    go_wp2
    exact h.out _ hst

end Go.Proofs.Ytfbpjadigmkkkaa
