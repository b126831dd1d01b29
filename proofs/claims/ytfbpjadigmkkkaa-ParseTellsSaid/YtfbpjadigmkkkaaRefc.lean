/- The reference's HTML: Put, All. -/
import Derived.Test.YtfbpjadigmkkkaaManyb
import Derived.Test.YtfbpjadigmkkkaaInvP
namespace Go.Proofs.Ytfbpjadigmkkkaa
open Go.RowKit

theorem convAt (c : UInt8) (b : Nat) (w : World) (h : w.cell? ⟨b, 0, none⟩ = some (.int .u8 (c.toNat : Int))) : (convert 53 9 (.slice (some ⟨b, 0, none⟩) 1 1)).run Try.prog w = .ok (.string ⟨#[c]⟩) w := by
  have h := run_convert_bytes_arg (P := Try.prog) w 53 5 Try.underlying53 Try.underlying5 b 0 1 1 [(c.toNat : Int)] rfl (fun i hi => by
    obtain rfl : i = 0 := by simpa using hi
    exact h) 9 Try.underlying9
  rw [h]
  have e : strOfNums [(c.toNat : Int)] = ⟨#[c]⟩ := by simp [strOfNums]
  rw [e]
theorem conv34 (b : Nat) (w : World) (h : w.cell? ⟨b, 0, none⟩ = some (.int .u8 34)) : (convert 53 9 (.slice (some ⟨b, 0, none⟩) 1 1)).run Try.prog w = .ok (.string ⟨#[34]⟩) w := convAt 34 b w h

set_option maxHeartbeats 4000000 in
set_option maxRecDepth 100000 in
theorem rput_all (M : Nat → Prop) (n : Nat) :
    (∀ (t : Tree) (va vk : Value) (w : World), SizeOf.sizeOf t ≤ n → Sl w M va t.attrs → Sl w M vk t.kids → (htmlT t).length ≤ 20000000000000 →
      ∀ R : Ending → World → Prop, (∀ w', Step Nil0 w w' → R (.returned (.string ⟨(htmlT t).toArray⟩)) w') → Calls Try.prog 42 #[.agg #[.string t.tag, .string t.text, .string t.key, va, vk]] w R) ∧
    (∀ (l : List Tree) (v : Value) (w : World), SizeOf.sizeOf l ≤ n → Sl w M v l → (l.flatMap htmlT).length ≤ 20000000000000 →
      ∀ R : Ending → World → Prop, (∀ w', Step Nil0 w w' → R (.returned (.string ⟨(l.flatMap htmlT).toArray⟩)) w') → Calls Try.prog 18 #[v] w R) := by
  induction n with
  | zero =>
    refine ⟨fun t va vk w hn => ?_, fun l v w hn => ?_⟩
    · obtain ⟨tag, text, key, attrs, kids⟩ := t; simp only [Tree.mk.sizeOf_spec] at hn; omega
    · cases l <;> simp only [List.nil.sizeOf_spec, List.cons.sizeOf_spec] at hn <;> omega
  | succ n ih =>
    obtain ⟨ih1, ih2⟩ := ih
    replace ih1 := Lib.hid ih1
    replace ih2 := Lib.hid ih2
    refine ⟨?_, ?_⟩
    · intro t va vk w hn ha hk hlen R h
      obtain ⟨A, ca, rfl, hca, hma⟩ := ha.form
      obtain ⟨K, ck, rfl, hck, hmk⟩ := hk.form
      have hla : t.attrs.length ≤ 9223372036854775807 := by simp only [maxLen] at hma; omega
      clear hma hmk
      have hbx := fun (w1 : World) => boxed (w1 := w1) ha hk
      replace hbx := Lib.hid hbx
      have hst0 : Step Nil0 w (w.alloc (.cells #[.string t.tag, .string t.text, .string t.key, .slice A t.attrs.length ca, .slice K t.kids.length ck] 38)) := (Step.refl _ _).alloc _
      obtain ⟨x0, x1, x2, x3, x4, xa, xk⟩ := hbx.out _ (Step.refl _ _)
      have hkn : SizeOf.sizeOf t.kids ≤ n := by
        obtain ⟨tag, text, key, attrs, kids⟩ := t
        simp only [Tree.mk.sizeOf_spec] at hn ⊢; omega
      cases e0 : emp t.tag
      · have e0b : t.tag.toList.isEmpty = false := e0
        rw [htmlT_elem e0] at h hlen
        have hlen' : (1 + t.tag.size + (t.attrs.flatMap htmlA).length + 1) + (if isVoid t.tag then ([] : List UInt8) else t.kids.flatMap htmlT ++ ([60, 47] ++ t.tag.data.toList ++ [62])).length ≤ 20000000000000 := by
          simp only [List.length_append, List.length_cons, List.length_nil, data_len] at hlen ⊢
          omega
        clear hlen
        have z0 : t.tag.size ≤ 20000000000000 := by omega
        have s60 : (⟨#[60]⟩ : Str).size = 1 := rfl
        have z1 : (⟨#[60]⟩ : Str).size + t.tag.size ≤ 9223372036854775807 := by omega
        replace h := Lib.hid h
        go_enter Try.func42, Try.ntmps42
        go_wp2
        go_loopw [3, 4] (fun s i wr => ∃ (k : Nat) (out : Str), k ≤ t.attrs.length ∧ i = .int .i64 k ∧ s = .string out ∧ out.data.toList = [60] ++ t.tag.data.toList ++ (t.attrs.take k).flatMap htmlA ∧ Step Nil0 w wr ∧
          Step Nil0 (w.alloc (.cells #[.string t.tag, .string t.text, .string t.key, .slice A t.attrs.length ca, .slice K t.kids.length ck] 38)) wr) (fun _ i _ => t.attrs.length - (intOf i).toNat)
        case atStart => exact ⟨0, _, Nat.zero_le _, rfl, rfl, by simp [app_data], hst0, Step.refl _ _⟩
        case round =>
          obtain ⟨k, out, hk2, rfl, rfl, hout, hst, hst1⟩ := hrel
          obtain ⟨y0, y1, y2, y3, y4, ya, yk⟩ := hbx.out wr hst1
          have hol : out.size = 1 + t.tag.size + ((t.attrs.take k).flatMap htmlA).length := by
            rw [← data_len, hout]; simp only [List.length_append, List.length_cons, List.length_nil, data_len]
          by_cases hlt : k < t.attrs.length
          · obtain ⟨ad, hA, hnm, u0, u1, u2⟩ := at_attr ya k hlt
            subst hA
            have htk : (t.attrs.take (k + 1)).flatMap htmlA = (t.attrs.take k).flatMap htmlA ++ htmlA t.attrs[k] := by
              rw [List.take_succ_eq_append_getElem hlt, List.flatMap_append, List.flatMap_singleton]
            have hle : ((t.attrs.take (k + 1)).flatMap htmlA).length ≤ (t.attrs.flatMap htmlA).length := by
              have e2 : t.attrs.flatMap htmlA = (t.attrs.take (k + 1)).flatMap htmlA ++ (t.attrs.drop (k + 1)).flatMap htmlA := by rw [← List.flatMap_append, List.take_append_drop]
              rw [e2, List.length_append]; omega
            have hA' : (htmlA t.attrs[k]).length = 1 + t.attrs[k].name.size + 2 + (escL t.attrs[k].value.data.toList).length + 1 := by
              simp only [htmlA, List.length_append, List.length_cons, List.length_nil, data_len]
            rw [htk, List.length_append, hA'] at hle
            have hvl : t.attrs[k].value.size ≤ (escL t.attrs[k].value.data.toList).length := by rw [← data_len]; exact escL_ge _
            generalize hqa : (t.attrs.take k).flatMap htmlA = qa at hle hol htk hout
            have hbn : t.attrs[k].name.size ≤ 20000000000000 := by omega
            have hbv : t.attrs[k].value.size ≤ 20000000000000 := by omega
            have hbo : out.size ≤ 20000000000000 := by omega
            have hbes : (⟨(escL t.attrs[k].value.data.toList).toArray⟩ : Str).size ≤ 20000000000000 := by rw [mk_size]; omega
            replace htk := Lib.hid htk
            replace hout := Lib.hid hout
            clear hA' hvl hle hol hlen'
            generalize hes : (⟨(escL t.attrs[k].value.data.toList).toArray⟩ : Str) = es at hbes
            replace hes := Lib.hid hes
            go_wp2_with (fail)
            refine' region_inv2 [(22, 0), (23, 1), (24, 2), (25, 3), (26, 4), (27, 5), (28, 6), (29, 7), (30, 8), (31, 9), (32, 10), (33, 11), (34, 12), (35, 13), (36, 14), (37, 15), (38, 16), (39, 17), (40, 18), (41, 19), (42, 20), (43, 21), (44, 22), (45, 23), (3, 24)] _ ?hlit ?h0 (by kernel_rfl) (by kernel_rfl) [eqS _, eqS _, eqS _, eqS _, eqS _, eqS _, eqS _, eqS _, eqS _, eqS _, (fun v w => ∃ b : Nat, v = .slice (some ⟨b, 0, none⟩) 1 1 ∧ w.cell? ⟨b, 0, none⟩ = some (.int .u8 34)), (eqS (.string ⟨#[34]⟩)), eqS _, eqS _, eqS _, eqS _, eqS _, eqS _, eqS _, (eqS (.string es)), eqS _, (fun v w => ∃ b : Nat, v = .slice (some ⟨b, 0, none⟩) 1 1 ∧ w.cell? ⟨b, 0, none⟩ = some (.int .u8 34)), (eqS (.string ⟨#[34]⟩)), eqS _, eqS _] ?stab ?steps ?fin
            case hlit =>
              intro vs
              simp only [litA, List.foldl_cons, List.foldl_nil, Act.put, List.setIfInBounds_toArray, List.set_cons_zero, List.set_cons_succ]
              rfl
            case h0 => kernel_rfl
            case steps =>
              refine AllSteps.cons (j := 1) rfl ?s0 (AllSteps.cons (j := 2) rfl ?s1 (AllSteps.cons (j := 3) rfl ?s2 (AllSteps.cons (j := 4) rfl ?s3 (AllSteps.cons (j := 5) rfl ?s4 (AllSteps.cons (j := 6) rfl ?s5 (AllSteps.cons (j := 7) rfl ?s6 (AllSteps.cons (j := 8) rfl ?s7 (AllSteps.cons (j := 9) rfl ?s8 (AllSteps.cons (j := 10) rfl ?s9 (AllSteps.cons (j := 11) rfl ?s10 (AllSteps.cons (j := 12) rfl ?s11 (AllSteps.cons (j := 13) rfl ?s12 (AllSteps.cons (j := 14) rfl ?s13 (AllSteps.cons (j := 15) rfl ?s14 (AllSteps.cons (j := 16) rfl ?s15 (AllSteps.cons (j := 17) rfl ?s16 (AllSteps.cons (j := 18) rfl ?s17 (AllSteps.cons (j := 19) rfl ?s18 (AllSteps.cons (j := 20) rfl ?s19 (AllSteps.cons (j := 21) rfl ?s20 (AllSteps.cons (j := 22) rfl ?s21 (AllSteps.cons (j := 23) rfl ?s22 (AllSteps.cons (j := 24) rfl ?s23 (AllSteps.cons (j := 25) rfl ?s24 (AllSteps.nil)))))))))))))))))))))))))
              all_goals first
                | (refine stepDet (fun vs v => by kernel_rfl) rfl rfl (fun vs wi hw hdep hund => ?_); have x_0 := hw.cell y3 (fun h => h); have x_1 := hw.cell u0 (fun h => h); have x_2 := hw.cell u1 (fun h => h); (try have d_0 := hdep 0 _ rfl rfl); (try have d_1 := hdep 1 _ rfl rfl); (try have d_2 := hdep 2 _ rfl rfl); (try have z_0 := hund 24 _ 2 _ rfl rfl rfl rfl); clear hdep hund; (try simp only [selS, eqS, List.getElem_toArray, List.getElem_cons_zero, List.getElem_cons_succ] at d_0); (try simp only [selS, eqS, List.getElem_toArray, List.getElem_cons_zero, List.getElem_cons_succ] at d_1); (try simp only [selS, eqS, List.getElem_toArray, List.getElem_cons_zero, List.getElem_cons_succ] at d_2); (try simp only [oldV] at z_0); go_simp; (try rw [if_neg (by omega)]); (try go_simp); (try with_reducible rfl); done)
                | skip
              case s10 =>
                exact stepVal (fun vs v => by kernel_rfl) rfl (fun vs wi hw hdep => ⟨.slice (some ⟨wi.heap.size, 0, none⟩) 1 1, wi.alloc (.cells #[.int .u8 34] 5), by go_simp, (Step.refl _ _).alloc _, wi.heap.size, rfl, cell_one_new wi _ _ 0 _ rfl⟩)
              case s11 =>
                refine stepDet (fun vs v => by kernel_rfl) rfl rfl (fun vs wi hw hdep hund => ?_)
                have d_0 : ∃ b : Nat, vs 10 = .slice (some ⟨b, 0, none⟩) 1 1 ∧ wi.cell? ⟨b, 0, none⟩ = some (.int .u8 34) := hdep 0 _ rfl rfl
                obtain ⟨b, e, hb⟩ := d_0
                clear hdep hund
                have hc := conv34 b wi hb
                go_simp
              case s19 =>
                refine stepCall 56 (fun vs => #[vs 18]) (fun vs v => by kernel_rfl) rfl (fun vs wi => by go_simp) (fun vs wi hw hdep R hR => ?_)
                have d_0 : vs 18 = .string t.attrs[k].value := hdep 0 _ rfl rfl
                rw [d_0]
                with_reducible (refine rput_c _ hbv _ ?_)
                intro w1 hs1
                rw [hes.out]
                exact hR _ _ hs1 rfl
              case s21 =>
                exact stepVal (fun vs v => by kernel_rfl) rfl (fun vs wi hw hdep => ⟨.slice (some ⟨wi.heap.size, 0, none⟩) 1 1, wi.alloc (.cells #[.int .u8 34] 5), by go_simp, (Step.refl _ _).alloc _, wi.heap.size, rfl, cell_one_new wi _ _ 0 _ rfl⟩)
              case s22 =>
                refine stepDet (fun vs v => by kernel_rfl) rfl rfl (fun vs wi hw hdep hund => ?_)
                have d_0 : ∃ b : Nat, vs 21 = .slice (some ⟨b, 0, none⟩) 1 1 ∧ wi.cell? ⟨b, 0, none⟩ = some (.int .u8 34) := hdep 0 _ rfl rfl
                obtain ⟨b, e, hb⟩ := d_0
                clear hdep hund
                have hc := conv34 b wi hb
                go_simp
            case stab => exact AllStable.cons (stable_eqS _) (AllStable.cons (stable_eqS _) (AllStable.cons (stable_eqS _) (AllStable.cons (stable_eqS _) (AllStable.cons (stable_eqS _) (AllStable.cons (stable_eqS _) (AllStable.cons (stable_eqS _) (AllStable.cons (stable_eqS _) (AllStable.cons (stable_eqS _) (AllStable.cons (stable_eqS _) (AllStable.cons (fun v w w' hst ⟨b, h1, h2⟩ => ⟨b, h1, hst.cell h2 (fun h => h)⟩) (AllStable.cons (stable_eqS _) (AllStable.cons (stable_eqS _) (AllStable.cons (stable_eqS _) (AllStable.cons (stable_eqS _) (AllStable.cons (stable_eqS _) (AllStable.cons (stable_eqS _) (AllStable.cons (stable_eqS _) (AllStable.cons (stable_eqS _) (AllStable.cons (stable_eqS _) (AllStable.cons (stable_eqS _) (AllStable.cons (fun v w w' hst ⟨b, h1, h2⟩ => ⟨b, h1, hst.cell h2 (fun h => h)⟩) (AllStable.cons (stable_eqS _) (AllStable.cons (stable_eqS _) (AllStable.cons (stable_eqS _) (trivial)))))))))))))))))))))))))
            case fin =>
              intro vs wi hw hS
              have e_0 := hS 0 (by decide)
              have e_1 := hS 1 (by decide)
              have e_2 := hS 2 (by decide)
              have e_3 := hS 3 (by decide)
              have e_4 := hS 4 (by decide)
              have e_5 := hS 5 (by decide)
              have e_6 := hS 6 (by decide)
              have e_7 := hS 7 (by decide)
              have e_8 := hS 8 (by decide)
              have e_9 := hS 9 (by decide)
              have e_10 := hS 10 (by decide)
              have e_11 := hS 11 (by decide)
              have e_12 := hS 12 (by decide)
              have e_13 := hS 13 (by decide)
              have e_14 := hS 14 (by decide)
              have e_15 := hS 15 (by decide)
              have e_16 := hS 16 (by decide)
              have e_17 := hS 17 (by decide)
              have e_18 := hS 18 (by decide)
              have e_19 := hS 19 (by decide)
              have e_20 := hS 20 (by decide)
              have e_21 := hS 21 (by decide)
              have e_22 := hS 22 (by decide)
              have e_23 := hS 23 (by decide)
              have e_24 := hS 24 (by decide)
              clear hS
              simp only [selS, eqS] at e_0 e_1 e_2 e_3 e_4 e_5 e_6 e_7 e_8 e_9 e_10 e_11 e_12 e_13 e_14 e_15 e_16 e_17 e_18 e_19 e_20 e_21 e_22 e_23 e_24
              simp only [e_0, e_1, e_2, e_3, e_4, e_5, e_6, e_7, e_8, e_9, e_12, e_13, e_14, e_15, e_16, e_17, e_18, e_20, e_23, e_24]
              clear e_0 e_1 e_2 e_3 e_4 e_5 e_6 e_7 e_8 e_9 e_12 e_13 e_14 e_15 e_16 e_17 e_18 e_20 e_23 e_24
              generalize vs 10 = r_10 at e_10 ⊢
              generalize vs 21 = r_21 at e_21 ⊢
              generalize vs 11 = r_11 at e_11 ⊢
              generalize vs 22 = r_22 at e_22 ⊢
              generalize vs 19 = r_19 at e_19 ⊢
              subst e_11 e_19 e_22
              go_wp2
              go_roundw
              case rel =>
                refine ⟨k + 1, _, by omega, by go_num, rfl, ?_, hst.then_ hw, hst1.then_ hw⟩
                simp only [app_data]
                rw [hout.out, htk.out, ← hes.out]
                simp [htmlA]
              case measure => simp [intOf]; omega
          · rw [List.take_of_length_le (by omega)] at hout hol
            have hbo : out.size ≤ 20000000000000 := by omega
            have s62 : (⟨#[62]⟩ : Str).size = 1 := rfl
            have hno := h.out
            generalize hqa : t.attrs.flatMap htmlA = qa at hno hout hol
            have hout2 := Lib.hid hout
            cases ev : isVoid t.tag
            · rw [ev] at hno hlen'
              simp only [Bool.false_eq_true, if_false] at hno hlen'
              have hlk : out.size + 1 + (t.kids.flatMap htmlT).length + 2 + t.tag.size + 1 ≤ 20000000000000 := by
                rw [← hqa] at hol
                simp only [List.length_append, List.length_cons, List.length_nil, data_len] at hlen'
                omega
              have hkl : (t.kids.flatMap htmlT).length ≤ 20000000000000 := by omega
              have hkz : (⟨(t.kids.flatMap htmlT).toArray⟩ : Str).size = (t.kids.flatMap htmlT).length := rfl
              replace hno := Lib.hid hno
              replace ev := Lib.hid ev
              clear hol hlen' hout
              replace hqa := Lib.hid hqa
              go_wp2_with (go_at_call 41; with_reducible (refine rvoid_c _ _ ?_); rw [ev.out])
              have hkz2 : (⟨(t.kids.flatMap htmlT).toArray⟩ : Str).size ≤ 20000000000000 := by omega
              have hlk2 : out.size + 1 + (⟨(t.kids.flatMap htmlT).toArray⟩ : Str).size + 2 + t.tag.size + 1 ≤ 20000000000000 := by omega
              clear hkz
              generalize hks : (⟨(t.kids.flatMap htmlT).toArray⟩ : Str) = ks at hkz2 hlk2
              replace hks := Lib.hid hks
              refine' region_inv2 [(53, 0), (54, 1), (55, 2), (56, 3), (57, 4), (58, 5), (59, 6), (60, 7), (61, 8), (62, 9), (2, 10)] _ ?hlitq ?h0q (by kernel_rfl) (by kernel_rfl) [eqS _, eqS _, eqS _, (eqS (.string ks)), eqS _, eqS _, eqS _, eqS _, eqS _, eqS _, eqS _] ?stabq ?stepsq ?finq
              case hlitq =>
                intro vs
                simp only [litA, List.foldl_cons, List.foldl_nil, Act.put, List.setIfInBounds_toArray, List.set_cons_zero, List.set_cons_succ]
                rfl
              case h0q => kernel_rfl
              case stepsq =>
                refine AllSteps.cons (j := 1) rfl ?sq0 (AllSteps.cons (j := 2) rfl ?sq1 (AllSteps.cons (j := 3) rfl ?sq2 (AllSteps.cons (j := 4) rfl ?sq3 (AllSteps.cons (j := 5) rfl ?sq4 (AllSteps.cons (j := 6) rfl ?sq5 (AllSteps.cons (j := 7) rfl ?sq6 (AllSteps.cons (j := 8) rfl ?sq7 (AllSteps.cons (j := 9) rfl ?sq8 (AllSteps.cons (j := 10) rfl ?sq9 (AllSteps.cons (j := 11) rfl ?sq10 (AllSteps.nil)))))))))))
                all_goals first
                  | (refine stepDet (fun vs v => by kernel_rfl) rfl rfl (fun vs wi hw hdep hund => ?_); have x_0 := hw.cell y0 (fun h => h); have x_1 := hw.cell y4 (fun h => h); (try have d_0 := hdep 0 _ rfl rfl); (try have d_1 := hdep 1 _ rfl rfl); (try have d_2 := hdep 2 _ rfl rfl); clear hdep hund; (try simp only [selS, eqS, List.getElem_toArray, List.getElem_cons_zero, List.getElem_cons_succ] at d_0); (try simp only [selS, eqS, List.getElem_toArray, List.getElem_cons_zero, List.getElem_cons_succ] at d_1); (try simp only [selS, eqS, List.getElem_toArray, List.getElem_cons_zero, List.getElem_cons_succ] at d_2); go_simp; (try rw [if_neg (by omega)]); (try go_simp); (try with_reducible rfl); done)
                  | skip
                case sq3 =>
                  refine stepCall 18 (fun vs => #[vs 2]) (fun vs v => by kernel_rfl) rfl (fun vs wi => by go_simp) (fun vs wi hw hdep R hR => ?_)
                  have d_0 : vs 2 = .slice K t.kids.length ck := hdep 0 _ rfl rfl
                  rw [d_0]
                  with_reducible (refine ih2.out _ _ _ hkn (yk.up (Up.still hw)) hkl _ ?_)
                  intro w1 hs1
                  rw [hks.out]
                  exact hR _ _ hs1 rfl
              case stabq => exact AllStable.cons (stable_eqS _) (AllStable.cons (stable_eqS _) (AllStable.cons (stable_eqS _) (AllStable.cons (stable_eqS _) (AllStable.cons (stable_eqS _) (AllStable.cons (stable_eqS _) (AllStable.cons (stable_eqS _) (AllStable.cons (stable_eqS _) (AllStable.cons (stable_eqS _) (AllStable.cons (stable_eqS _) (AllStable.cons (stable_eqS _) (trivial)))))))))))
              case finq =>
                intro vs wi hw hS
                have e_0 := hS 0 (by decide)
                have e_1 := hS 1 (by decide)
                have e_2 := hS 2 (by decide)
                have e_3 := hS 3 (by decide)
                have e_4 := hS 4 (by decide)
                have e_5 := hS 5 (by decide)
                have e_6 := hS 6 (by decide)
                have e_7 := hS 7 (by decide)
                have e_8 := hS 8 (by decide)
                have e_9 := hS 9 (by decide)
                have e_10 := hS 10 (by decide)
                clear hS
                simp only [selS, eqS] at e_0 e_1 e_2 e_3 e_4 e_5 e_6 e_7 e_8 e_9 e_10
                simp only [e_0, e_1, e_2, e_4, e_5, e_6, e_7, e_8, e_9, e_10]
                clear e_0 e_1 e_2 e_4 e_5 e_6 e_7 e_8 e_9 e_10
                generalize vs 3 = r_3 at e_3 ⊢
                subst e_3
                go_wp2
                have hr := hno.out _ (hst.then_ hw)
                rw [← mk_data' (out ++ ⟨#[62]⟩ ++ ks ++ ⟨#[60, 47]⟩ ++ t.tag ++ ⟨#[62]⟩) _ (by simp only [app_data]; rw [hout2.out, ← hks.out]; simp)] at hr
                exact hr
            · rw [ev] at hno
              simp only [if_true, List.append_nil] at hno
              replace hno := Lib.hid hno
              replace ev := Lib.hid ev
              clear hol hlen' hout
              replace hqa := Lib.hid hqa
              go_wp2_with (go_at_call 41; with_reducible (refine rvoid_c _ _ ?_); rw [ev.out])
              have hr := hno.out _ hst
              rw [← mk_data' (out ++ ⟨#[62]⟩) _ (by simp only [app_data]; rw [hout2.out])] at hr
              exact hr
      · have e0b : t.tag.toList.isEmpty = true := e0
        have e0c := emp_true e0
        rw [htmlT_text e0] at h hlen
        have hts : t.text.size ≤ 20000000000000 := by
          have := escL_ge t.text.data.toList
          rw [data_len] at this
          omega
        replace h := Lib.hid h
        clear hlen
        go_enter Try.func42, Try.ntmps42
        go_wp2_with (go_at_call 56; with_reducible (refine rput_c _ hts _ ?_))
        intro w1 hst1
        go_wp2
        exact h.out w1 (hst0.then_ hst1)
    · intro l v w hn hl hlen R h
      obtain ⟨A, cap, rfl, hcap, hmax⟩ := hl.form
      have hll : l.length ≤ 9223372036854775807 := by simp only [maxLen] at hmax; omega
      clear hmax
      replace h := Lib.hid h
      go_enter Try.func18, Try.ntmps18
      go_wp2
      go_loopw [3, 4] (fun s i wr => ∃ (k : Nat) (out : Str), k ≤ l.length ∧ i = .int .i64 k ∧ s = .string out ∧ out.data.toList = (l.take k).flatMap htmlT ∧ Step Nil0 w wr) (fun _ i _ => l.length - (intOf i).toNat)
      case atStart => exact ⟨0, _, Nat.zero_le _, rfl, rfl, by simp, Step.refl _ _⟩
      case round =>
        obtain ⟨k, out, hk2, rfl, rfl, hout, hst⟩ := hrel
        have hol : out.size = ((l.take k).flatMap htmlT).length := by rw [← data_len, hout]
        by_cases hlt : k < l.length
        · obtain ⟨ad, va', vk', hA, hnm, x0, x1, x2, x3, x4, xa', xk'⟩ := at_tree (hl.up (Up.still (M := M) hst)) k hlt
          subst hA
          clear hnm
          have hszk : SizeOf.sizeOf l[k] ≤ n := by have := List.sizeOf_lt_of_mem (List.getElem_mem hlt); omega
          have htk : (l.take (k + 1)).flatMap htmlT = (l.take k).flatMap htmlT ++ htmlT l[k] := by
            rw [List.take_succ_eq_append_getElem hlt, List.flatMap_append, List.flatMap_singleton]
          have hle : ((l.take (k + 1)).flatMap htmlT).length ≤ (l.flatMap htmlT).length := by
            have e2 : l.flatMap htmlT = (l.take (k + 1)).flatMap htmlT ++ (l.drop (k + 1)).flatMap htmlT := by rw [← List.flatMap_append, List.take_append_drop]
            rw [e2, List.length_append]; omega
          rw [htk, List.length_append] at hle
          have hl5 : (htmlT l[k]).length ≤ 20000000000000 := by omega
          have hbo : out.size ≤ 20000000000000 := by omega
          have hbt : (⟨(htmlT l[k]).toArray⟩ : Str).size ≤ 20000000000000 := hl5
          generalize hks : (⟨(htmlT l[k]).toArray⟩ : Str) = ks at hbt
          replace hks := Lib.hid hks
          replace htk := Lib.hid htk
          replace hout := Lib.hid hout
          clear hol
          obtain ⟨A', ca', rfl, _⟩ := xa'.form
          obtain ⟨K', ck', rfl, _⟩ := xk'.form
          go_wp2_with (go_at_call 42; with_reducible (refine ih1.out _ _ _ _ hszk xa' xk' hl5 _ ?_))
          intro w5 hst5
          rw [hks.out]
          go_wp2
          go_roundw
          case rel => exact ⟨k + 1, _, by omega, by go_num, rfl, by rw [app_data, hout.out, htk.out, ← hks.out], hst.then_ hst5⟩
          case measure => simp [intOf]; omega
        · rw [List.take_of_length_le (by omega)] at hout
          clear hol
          have hr := h.out wr hst
          rw [← mk_data' out _ hout] at hr
          replace hr := Lib.hid hr
          replace hout := Lib.hid hout
          go_wp2
          exact hr.out
theorem rput_t (M : Nat → Prop) (t : Tree) (va vk : Value) (w : World) (ha : Sl w M va t.attrs) (hk : Sl w M vk t.kids) (hlen : (htmlT t).length ≤ 20000000000000)
    {R : Ending → World → Prop} (h : ∀ w', Step Nil0 w w' → R (.returned (.string ⟨(htmlT t).toArray⟩)) w') : Calls Try.prog 42 #[.agg #[.string t.tag, .string t.text, .string t.key, va, vk]] w R :=
  (rput_all M _).1 t va vk w (Nat.le_refl _) ha hk hlen R h
theorem rall_c (M : Nat → Prop) (l : List Tree) (v : Value) (w : World) (hl : Sl w M v l) (hlen : (l.flatMap htmlT).length ≤ 20000000000000) {R : Ending → World → Prop}
    (h : ∀ w', Step Nil0 w w' → R (.returned (.string ⟨(l.flatMap htmlT).toArray⟩)) w') : Calls Try.prog 18 #[v] w R :=
  (rput_all M _).2 l v w (Nat.le_refl _) hl hlen R h
end Go.Proofs.Ytfbpjadigmkkkaa
