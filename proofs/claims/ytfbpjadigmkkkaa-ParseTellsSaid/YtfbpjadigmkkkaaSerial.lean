/- serial: trees written into a builder; All. -/
import Derived.Test.YtfbpjadigmkkkaaTreed
import Derived.Deep.RegionHeld3
namespace Go.Proofs.Ytfbpjadigmkkkaa
open Go.RowKit

/-- A tree in the box in which a call lays it, while M may turn. -/
theorem boxedU {w w1 : World} {M M1 : Nat → Prop} {t : Tree} {va vk : Value} (ha : Sl w M va t.attrs) (hk : Sl w M vk t.kids) (hM : ∀ k, M k → k < w.heap.size)
    (hup : Up (w.alloc (.cells #[.string t.tag, .string t.text, .string t.key, va, vk] 38)) M w1 M1) :
    w1.cell? ⟨w.heap.size, 0, none⟩ = some (.string t.tag) ∧ w1.cell? ⟨w.heap.size, 1, none⟩ = some (.string t.text) ∧ w1.cell? ⟨w.heap.size, 2, none⟩ = some (.string t.key) ∧
      w1.cell? ⟨w.heap.size, 3, none⟩ = some va ∧ w1.cell? ⟨w.heap.size, 4, none⟩ = some vk ∧ Sl w1 M1 va t.attrs ∧ Sl w1 M1 vk t.kids := by
  have hb := (Blk.new w 38 #[.string t.tag, .string t.text, .string t.key, va, vk]).step hup.step (fun h => by have := hM _ h; omega)
  have hu : Up w M w1 M1 := ((Up.refl w M).alloc _).trans hup
  exact ⟨by rw [hb.cell]; rfl, by rw [hb.cell]; rfl, by rw [hb.cell]; rfl, by rw [hb.cell]; rfl, by rw [hb.cell]; rfl, ha.up hu, hk.up hu⟩

theorem Bld.alloc {w : World} {B b : Nat} {M : Nat → Prop} {l : List UInt8} (h : Bld w B b M l) (o : Obj) : Bld (w.alloc o) B b M l :=
  h.step (N := Nil0) ((Step.refl _ _).alloc _) (fun _ _ hn => hn)
theorem Bld.still {w w1 : World} {B b : Nat} {M : Nat → Prop} {l : List UInt8} (h : Bld w B b M l) (k : Step Nil0 w w1) : Bld w1 B b M l := h.step k (fun _ _ hn => hn)

theorem escL_ge (q : List UInt8) : q.length ≤ (escL q).length := by
  induction q with
  | nil => simp
  | cons c q ih2 =>
    have := (signL_len c).2
    simp only [escL, List.flatMap_cons, List.length_append, List.length_cons] at *
    omega

set_option maxHeartbeats 4000000 in
set_option maxRecDepth 100000 in
theorem write_c (B b : Nat) (n : Nat) : ∀ (t : Tree) (va vk : Value) (w : World) (M : Nat → Prop) (l : List UInt8), SizeOf.sizeOf t ≤ n → Sl w M va t.attrs → Sl w M vk t.kids → Bld w B b M l → B ≤ w.heap.size →
    l.length + (htmlT t).length ≤ 20000000000000 →
    ∀ R : Ending → World → Prop, (∀ w' M', Up w M w' M' → Bld w' B b M' (l ++ htmlT t) → R (.returned (.tuple #[])) w') →
    Calls Try.prog 23 #[.pointer (some ⟨b, 0, none⟩), .agg #[.string t.tag, .string t.text, .string t.key, va, vk]] w R := by
  induction n with
  | zero => intro t va vk w M l hn; obtain ⟨tag, text, key, attrs, kids⟩ := t; simp only [Tree.mk.sizeOf_spec] at hn; omega
  | succ n ih =>
    intro t va vk w M l hn ha hk hb hB hlen R h
    replace ih := Lib.hid ih
    obtain ⟨A, ca, rfl, hca, hma⟩ := ha.form
    obtain ⟨K, ck, rfl, hck, hmk⟩ := hk.form
    have hla : t.attrs.length ≤ 9223372036854775807 := by simp only [maxLen] at hma; omega
    have hlk : t.kids.length ≤ 9223372036854775807 := by simp only [maxLen] at hmk; omega
    clear hma hmk
    have hbx := fun (w1 : World) (M1 : Nat → Prop) => boxedU (w1 := w1) (M1 := M1) ha hk hb.lt
    replace hbx := Lib.hid hbx
    have hup0 : Up w M (w.alloc (.cells #[.string t.tag, .string t.text, .string t.key, .slice A t.attrs.length ca, .slice K t.kids.length ck] 38)) M := (Up.refl w M).alloc _
    have hb0 := hb.alloc (.cells #[.string t.tag, .string t.text, .string t.key, .slice A t.attrs.length ca, .slice K t.kids.length ck] 38)
    cases e0 : emp t.tag
    · have e0b : t.tag.toList.isEmpty = false := e0
      rw [htmlT_elem e0] at h hlen
      have hlen' : l.length + (1 + t.tag.size + (t.attrs.flatMap htmlA).length + 1) + (if isVoid t.tag then ([] : List UInt8) else t.kids.flatMap htmlT ++ ([60, 47] ++ t.tag.data.toList ++ [62])).length ≤ 20000000000000 := by
        simp only [List.length_append, List.length_cons, List.length_nil, data_len] at hlen ⊢
        omega
      clear hlen
      have z0 : t.tag.size ≤ 20000000000000 := by omega
      have z1 : (⟨#[60]⟩ : Str).size + t.tag.size ≤ 20000000000001 := by rw [show (⟨#[60]⟩ : Str).size = 1 from rfl]; omega
      have hlen1 : l.length + ((⟨#[60]⟩ : Str) ++ t.tag).size ≤ 140737488355328 := by rw [app_size, show (⟨#[60]⟩ : Str).size = 1 from rfl]; omega
      have hBs : B ≤ (w.alloc (.cells #[.string t.tag, .string t.text, .string t.key, .slice A t.attrs.length ca, .slice K t.kids.length ck] 38)).heap.size := Nat.le_trans hB hup0.step.size
      replace h := Lib.hid h
      go_enter Try.func23, Try.ntmps23
      go_wp2_with (go_at_call 45; with_reducible (refine writeString_c _ _ M _ _ _ hb0 hlen1 hBs ?_))
      intro w1 M1 hup1 hb1
      replace hb1 : Bld w1 B b M1 (l ++ ([60] ++ t.tag.data.toList)) := by simpa [app_data] using hb1
      obtain ⟨c0, c1, c2, c3, c4, sa, sk⟩ := hbx.out w1 M1 hup1
      go_wp2
      go_loopw [24] (fun i wr => ∃ (k : Nat) (M2 : Nat → Prop), k ≤ t.attrs.length ∧ i = .int .i64 k ∧ Up w1 M1 wr M2 ∧ Bld wr B b M2 (l ++ ([60] ++ t.tag.data.toList) ++ (t.attrs.take k).flatMap htmlA)) (fun i _ => t.attrs.length - (intOf i).toNat)
      case atStart => exact ⟨0, M1, Nat.zero_le _, rfl, Up.refl _ _, by simpa using hb1⟩
      case round =>
        obtain ⟨k, M2, hk2, rfl, hup2, hb2⟩ := hrel
        have hup12 := hup1.trans hup2
        by_cases hlt : k < t.attrs.length
        · obtain ⟨d0, d1, d2, d3, d4, sa2, sk2⟩ := hbx.out wr M2 hup12
          obtain ⟨ad, hA, hnm, x0, x1, x2⟩ := at_attr sa2 k hlt
          subst hA
          have hb3 := hb2.alloc (.cells #[.string t.attrs[k].name, .string t.attrs[k].value, .bool t.attrs[k].static] 74)
          have htk : (t.attrs.take (k + 1)).flatMap htmlA = (t.attrs.take k).flatMap htmlA ++ htmlA t.attrs[k] := by
            rw [List.take_succ_eq_append_getElem hlt, List.flatMap_append, List.flatMap_singleton]
          have hle : ((t.attrs.take (k + 1)).flatMap htmlA).length ≤ (t.attrs.flatMap htmlA).length := by
            have e : t.attrs = t.attrs.take (k + 1) ++ t.attrs.drop (k + 1) := (List.take_append_drop _ _).symm
            have e2 : t.attrs.flatMap htmlA = (t.attrs.take (k + 1)).flatMap htmlA ++ (t.attrs.drop (k + 1)).flatMap htmlA := by rw [← List.flatMap_append, List.take_append_drop]
            rw [e2, List.length_append]; omega
          have hup3 : Up w1 M1 (wr.alloc (.cells #[.string t.attrs[k].name, .string t.attrs[k].value, .bool t.attrs[k].static] 74)) M2 := hup2.alloc _
          have y := Blk.new wr 74 #[.string t.attrs[k].name, .string t.attrs[k].value, .bool t.attrs[k].static]
          have hnb : ∀ j, M2 j → j < wr.heap.size := hb2.lt
          go_wp2
          clear hb2 sa2 sk2 d0 d1 d2 d3 d4 x0 x1 x2
          generalize wr.alloc (.cells #[.string t.attrs[k].name, .string t.attrs[k].value, .bool t.attrs[k].static] 74) = wx at y hb3 hup3 ⊢
          have y0 : wx.cell? ⟨wr.heap.size, 0, none⟩ = some (.string t.attrs[k].name) := by rw [y.cell]; rfl
          have y1 : wx.cell? ⟨wr.heap.size, 1, none⟩ = some (.string t.attrs[k].value) := by rw [y.cell]; rfl
          have hA' : (htmlA t.attrs[k]).length = 1 + t.attrs[k].name.size + 2 + (escL t.attrs[k].value.data.toList).length + 1 := by
            simp only [htmlA, List.length_append, List.length_cons, List.length_nil, data_len]
          rw [htk, List.length_append, hA'] at hle
          have hvl : t.attrs[k].value.size ≤ (escL t.attrs[k].value.data.toList).length := by rw [← data_len]; exact escL_ge _
          have hL1 : (l ++ ([60] ++ t.tag.data.toList) ++ (t.attrs.take k).flatMap htmlA).length = l.length + (1 + t.tag.size) + ((t.attrs.take k).flatMap htmlA).length := by
            simp only [List.length_append, List.length_cons, List.length_nil, data_len]
          generalize hqa : (t.attrs.take k).flatMap htmlA = qa at hle hb3 hL1 htk
          have hbn : t.attrs[k].name.size ≤ 20000000000000 := by omega
          have hbv : t.attrs[k].value.size ≤ 20000000000000 := by omega
          have hbe : (escL t.attrs[k].value.data.toList).length ≤ 20000000000000 := by omega
          have s1 : (⟨#[32]⟩ : Str).size = 1 := rfl
          have s2 : (⟨#[61, 34]⟩ : Str).size = 2 := rfl
          have s3 : (⟨#[34]⟩ : Str).size = 1 := rfl
          replace htk := Lib.hid htk
          clear hA'
          have q1 : (⟨#[32]⟩ : Str).size + t.attrs[k].name.size ≤ 9223372036854775807 := by omega
          have hbes : (⟨(escL t.attrs[k].value.data.toList).toArray⟩ : Str).size ≤ 20000000000000 := hbe
          generalize hes : (⟨(escL t.attrs[k].value.data.toList).toArray⟩ : Str) = es at hbes
          have hput : ∀ (wa : World) (R' : Ending → World → Prop), (∀ w', Step Nil0 wa w' → R' (.returned (.string es)) w') → Calls Try.prog 46 #[.string t.attrs[k].value] wa R' := fun wa R' h' => escPut_c _ hbv wa (by rw [hes]; exact h')
          have y0d : wx.drew.cell? ⟨wr.heap.size, 0, none⟩ = some (.string t.attrs[k].name) := y0
          have y1d : wx.drew.cell? ⟨wr.heap.size, 1, none⟩ = some (.string t.attrs[k].value) := y1
          have hlw : (l ++ ([60] ++ t.tag.data.toList) ++ qa).length + ((⟨#[32]⟩ : Str) ++ t.attrs[k].name ++ ⟨#[61, 34]⟩ ++ es ++ ⟨#[34]⟩).size ≤ 140737488355328 := by
            rw [hL1]; simp only [app_size]; rw [s1, s2, s3]; omega
          have hdt : ((⟨#[32]⟩ : Str) ++ t.attrs[k].name ++ ⟨#[61, 34]⟩ ++ es ++ ⟨#[34]⟩).data.toList = htmlA t.attrs[k] := by
            simp only [app_data]; rw [← hes]; rfl
          replace hdt := Lib.hid hdt
          replace hput := Lib.hid hput
          replace hes := Lib.hid hes
          go_region_with (first | (go_at_call 46; with_reducible (refine hput.out _ _ ?_); intro w2 hst2; have yy0 := hst2.cell y0d (by simp [Nil0]); have yy1 := hst2.cell y1d (by simp [Nil0])) | (go_at_call 45; with_reducible (refine writeString_c _ _ M2 _ _ _ (hb3.still (((Step.refl Nil0 wx).drew).then_ hst2)) hlw ?_ ?_); (have := hst2.size; have := hup3.step.size; have := hup1.step.size; have : wx.drew.heap.size = wx.heap.size := rfl; omega); intro w3 M3 hup4 hb4))
          all_goals
            go_wp2
            go_roundw
            case rel => exact ⟨k + 1, M3, by omega, by go_num, (hup3.trans (Up.still (((Step.refl Nil0 wx).drew).then_ hst2))).trans hup4, by rw [htk.out, ← hqa, ← List.append_assoc, hqa, ← hdt.out]; simpa using hb4⟩
            case measure => simp [intOf]; omega
        · have hk3 : k = t.attrs.length := by omega
          rw [List.take_of_length_le (by omega)] at hb2
          have hsz2 := hup12.step.size
          obtain ⟨d0, d1, d2, d3, d4, sa2, sk2⟩ := hbx.out wr M2 hup12
          have hLa : (l ++ ([60] ++ t.tag.data.toList) ++ t.attrs.flatMap htmlA).length = l.length + (1 + t.tag.size) + (t.attrs.flatMap htmlA).length := by
            simp only [List.length_append, List.length_cons, List.length_nil, data_len]
          have hl3 : (l ++ ([60] ++ t.tag.data.toList) ++ t.attrs.flatMap htmlA).length + (⟨#[62]⟩ : Str).size ≤ 140737488355328 := by rw [hLa, show (⟨#[62]⟩ : Str).size = 1 from rfl]; omega
          clear sa2 sk2 d1 d2 d3 d4 hla
          replace hk3 := Lib.hid hk3
          go_wp2_with (go_at_call 45; with_reducible (refine writeString_c _ _ M2 _ _ _ hb2 hl3 (by omega) ?_))
          intro w3 M3 hup3 hb3
          have hup13 := hup12.trans hup3
          obtain ⟨d0, d1, d2, d3, d4, sa3, sk3⟩ := hbx.out w3 M3 hup13
          have hsz3 := hup13.step.size
          replace hb3 : Bld w3 B b M3 (l ++ ([60] ++ t.tag.data.toList) ++ t.attrs.flatMap htmlA ++ [62]) := by simpa using hb3
          generalize hpre : l ++ ([60] ++ t.tag.data.toList) ++ t.attrs.flatMap htmlA = pre at hb3 hLa
          have hout : ∀ s, l ++ ([60] ++ t.tag.data.toList ++ t.attrs.flatMap htmlA ++ [62] ++ s) = pre ++ [62] ++ s := by
            intro s; rw [← hpre]; simp
          rw [hout] at h
          clear hout hpre hb2
          cases ev : isVoid t.tag
          · rw [ev] at h hlen'
            simp only [Bool.false_eq_true, if_false] at h hlen'
            have hlen4 : l.length + (1 + t.tag.size + (t.attrs.flatMap htmlA).length + 1) + (t.kids.flatMap htmlT).length + (2 + t.tag.size + 1) ≤ 20000000000000 := by
              simp only [List.length_append, List.length_cons, List.length_nil, data_len] at hlen'
              omega
            replace ev := Lib.hid ev
            go_wp2_with (go_at_call 33; refine void_c _ _ ?_; rw [ev.out])
            go_loopw [48] (fun i wr => ∃ (q : Nat) (M4 : Nat → Prop), q ≤ t.kids.length ∧ i = .int .i64 q ∧ Up w3 M3 wr M4 ∧ Bld wr B b M4 (pre ++ [62] ++ (t.kids.take q).flatMap htmlT)) (fun i _ => t.kids.length - (intOf i).toNat)
            case atStart => exact ⟨0, M3, Nat.zero_le _, rfl, Up.refl _ _, by simpa using hb3⟩
            case round =>
              obtain ⟨q, M4, hq, rfl, hup4, hb4⟩ := hrel
              have hup14 := hup13.trans hup4
              rename_i wr4 _
              obtain ⟨f0, f1, f2, f3, f4, sa4, sk4⟩ := hbx.out _ M4 hup14
              have hsz4 := hup14.step.size
              by_cases hlt : q < t.kids.length
              · obtain ⟨ad, va', vk', hA, hnm, x0, x1, x2, x3, x4, xa', xk'⟩ := at_tree sk4 q hlt
                subst hA
                clear hnm sa4 sk4
                have hszk : SizeOf.sizeOf t.kids[q] ≤ n := by have := kid_lt (List.getElem_mem hlt); omega
                have htk : (t.kids.take (q + 1)).flatMap htmlT = (t.kids.take q).flatMap htmlT ++ htmlT t.kids[q] := by
                  rw [List.take_succ_eq_append_getElem hlt, List.flatMap_append, List.flatMap_singleton]
                have hle : ((t.kids.take (q + 1)).flatMap htmlT).length ≤ (t.kids.flatMap htmlT).length := by
                  have e2 : t.kids.flatMap htmlT = (t.kids.take (q + 1)).flatMap htmlT ++ (t.kids.drop (q + 1)).flatMap htmlT := by rw [← List.flatMap_append, List.take_append_drop]
                  rw [e2, List.length_append]; omega
                rw [htk, List.length_append] at hle
                have hl5 : (pre ++ [62] ++ (t.kids.take q).flatMap htmlT).length + (htmlT t.kids[q]).length ≤ 20000000000000 := by
                  simp only [List.length_append, List.length_cons, List.length_nil] at hLa ⊢
                  omega
                replace htk := Lib.hid htk
                obtain ⟨A', ca', rfl, _⟩ := xa'.form
                obtain ⟨K', ck', rfl, _⟩ := xk'.form
                go_wp2_with (go_at_call 23; with_reducible (refine ih.out _ _ _ _ M4 _ hszk (xa'.up ((Up.refl _ _).alloc _)) (xk'.up ((Up.refl _ _).alloc _)) (hb4.alloc _) (by simp; omega) hl5 _ ?_))
                intro w5 M5 hup5 hb5
                go_wp2
                go_roundw
                case rel => exact ⟨q + 1, M5, by omega, by go_num, (hup4.alloc _).trans hup5, by rw [htk.out, ← List.append_assoc]; simpa using hb5⟩
                case measure => simp [intOf]; omega
              · rw [List.take_of_length_le (by omega)] at hb4
                have t1 : (⟨#[60, 47]⟩ : Str).size = 2 := rfl
                have t2 : (⟨#[62]⟩ : Str).size = 1 := rfl
                have q1 : (⟨#[60, 47]⟩ : Str).size + t.tag.size ≤ 20000000000002 := by omega
                have hlw : (pre ++ [62] ++ t.kids.flatMap htmlT).length + ((⟨#[60, 47]⟩ : Str) ++ t.tag ++ ⟨#[62]⟩).size ≤ 140737488355328 := by
                  simp only [List.length_append, List.length_cons, List.length_nil, app_size] at hLa ⊢
                  rw [t1, t2]; omega
                clear sa4 sk4
                go_wp2_with (go_at_call 45; with_reducible (refine writeString_c _ _ M4 _ _ _ hb4 hlw (by omega) ?_))
                intro w5 M5 hup5 hb5
                go_wp2
                go_end0
                refine h.out w5 M5 (hup0.trans (hup14.trans hup5)) ?_
                simpa [app_data] using hb5
          · rw [ev] at h
            simp only [if_true, List.append_nil] at h
            replace ev := Lib.hid ev
            go_wp2_with (go_at_call 33; refine void_c _ _ ?_; rw [ev.out])
            go_end0
            exact h.out w3 M3 (hup0.trans hup13) hb3
    · have e0b : t.tag.toList.isEmpty = true := e0
      have e0c := emp_true e0
      rw [htmlT_text e0] at h hlen
      have hts : t.text.size ≤ 20000000000000 := by
        have : t.text.data.toList.length ≤ (escL t.text.data.toList).length := by
          generalize t.text.data.toList = q
          induction q with
          | nil => simp
          | cons c q ih2 =>
            have := (signL_len c).2
            simp only [escL, List.flatMap_cons, List.length_append, List.length_cons] at *
            omega
        rw [data_len] at this
        omega
      have hlen2 : l.length + (⟨(escL t.text.data.toList).toArray⟩ : Str).size ≤ 140737488355328 := by rw [mk_size]; omega
      replace h := Lib.hid h
      clear hlen
      go_enter Try.func23, Try.ntmps23
      go_wp2_with (go_at_call 46; with_reducible (refine escPut_c _ hts _ ?_))
      intro w1 hst1
      have hb1 := hb0.still hst1
      have hup1 := hup0.trans (Up.still (M := M) hst1)
      have hsz := hup1.step.size
      go_wp2_with (go_at_call 45; with_reducible (refine writeString_c _ _ M _ _ _ hb1 hlen2 (by omega) ?_))
      intro w2 M2 hup2 hb2
      go_wp2
      go_end0
      exact h.out w2 M2 (hup1.trans hup2) hb2
end Go.Proofs.Ytfbpjadigmkkkaa
