/- Attributes: package attr's May, at; the reference's May, Same. -/
import Derived.Test.YtfbpjadigmkkkaaRefa
import Derived.Deep.RegionWith
namespace Go.Proofs.Ytfbpjadigmkkkaa
open Go.RowKit

def idxI : Option Nat → Int | some i => (i : Int) | none => -1
def Attr.val (x : Attr) : Value := .agg #[.string x.name, .string x.value, .bool x.static]

theorem findIdx_stop {α : Type} {p : α → Bool} {l : List α} {k : Nat} (hk : k < l.length) (h : ∀ j (hj : j < l.length), j < k → p l[j] = false) (hp : p l[k] = true) : l.findIdx? p = some k := by
  rw [List.findIdx?_eq_some_iff_getElem]
  exact ⟨hk, hp, fun j hjk => by simp [h j (by omega) hjk]⟩
theorem findIdx_none {α : Type} {p : α → Bool} {l : List α} (h : ∀ j (hj : j < l.length), p l[j] = false) : l.findIdx? p = none := by
  rw [List.findIdx?_eq_none_iff]
  intro x hx
  obtain ⟨j, hj, rfl⟩ := List.getElem_of_mem hx
  simp [h j hj]

set_option maxHeartbeats 1000000 in
theorem indexAttr_c (M : Nat → Prop) (v : Value) (l : List Attr) (w : World) (hl : Sl w M v l) (f : Nat) (c : Value) (p : Attr → Bool)
    (hent : ∀ args w, (callFunc f args).run Try.prog w = .ok (.enter f args) w)
    (hp : ∀ x w1, Step Nil0 w w1 → ∀ R : Ending → World → Prop, (∀ w2, Step Nil0 w1 w2 → R (.returned (.bool (p x))) w2) → Calls Try.prog f #[.agg #[.string x.name, .string x.value, .bool x.static], c] w1 R)
    {R : Ending → World → Prop} (h : ∀ w', Step Nil0 w w' → R (.returned (.int .i64 (idxI (l.findIdx? p)))) w') :
    Calls Try.prog 64 #[v, .func (.func f) #[] #[c]] w R := by
  replace h := Lib.hid h
  replace hp := Lib.hid hp
  obtain ⟨A, cap, rfl, hcap, hmax⟩ := hl.form
  have hlen : l.length ≤ 9223372036854775807 := by simp only [maxLen] at hmax; omega
  clear hmax
  go_enter Try.func64, Try.ntmps64
  go_wp2
  go_loopw [8] (fun i wr => ∃ k : Nat, k ≤ l.length ∧ i = .int .i64 k ∧ Step Nil0 w wr ∧ ∀ j (hj : j < l.length), j < k → p l[j] = false) (fun i _ => l.length - (intOf i).toNat)
  case atStart => exact ⟨0, Nat.zero_le _, rfl, Step.refl _ _, fun j _ h => absurd h (by omega)⟩
  case round =>
    obtain ⟨k, hk, rfl, hst, hall⟩ := hrel
    replace hall := Lib.hid hall
    by_cases hlt : k < l.length
    · obtain ⟨ad, rfl, hnm, x0, x1, x2⟩ := at_attr (hl.up (Up.still (M := M) hst)) k hlt
      replace hnm := Lib.hid hnm
      cases hpk : p l[k]
      · replace hpk := Lib.hid hpk
        go_wp2_with (with_reducible (refine hp.out _ _ ?_ _ ?_))
        · exact hst
        intro w2 hst2
        rw [hpk.out]
        go_wp2
        go_roundw
        case rel =>
          refine ⟨k + 1, by omega, by go_num, hst.then_ hst2, fun j hj hjk => ?_⟩
          rcases Nat.lt_or_ge j k with h3 | h3
          · exact hall.out j hj h3
          · obtain rfl : j = k := by omega
            exact hpk.out
        case measure => simp [intOf]; omega
      · have hidx := findIdx_stop hlt (fun j hj hjk => hall.out j hj hjk) hpk
        replace hpk := Lib.hid hpk
        replace hidx := Lib.hid hidx
        go_wp2_with (with_reducible (refine hp.out _ _ ?_ _ ?_))
        · exact hst
        intro w2 hst2
        rw [hpk.out]
        go_wp2
        have hr := h.out w2 (hst.then_ hst2)
        rw [hidx.out] at hr
        exact hr
    · have hidx := findIdx_none (fun j hj => hall.out j hj (by omega))
      replace hidx := Lib.hid hidx
      go_wp2
      have hr := h.out wr hst
      rw [hidx.out] at hr
      exact hr

theorem at1_c (x : Attr) (a : Addr) (name : Str) (w : World) (ha : w.cell? a = some (.string name)) {R : Ending → World → Prop} (h : ∀ w', Step Nil0 w w' → R (.returned (.bool (x.name.toList == name.toList))) w') :
    Calls Try.prog 65 #[.agg #[.string x.name, .string x.value, .bool x.static], .pointer (some a)] w R := by
  replace h := Lib.hid h
  have hlt := World.block_lt_of_cell? w a ha
  go_enter Try.func65, Try.ntmps65
  go_wp2
  exact h.out _ ((Step.refl _ _).alloc _)

theorem at_c (M : Nat → Prop) (v : Value) (l : List Attr) (name : Str) (w : World) (hl : Sl w M v l)
    {R : Ending → World → Prop} (h : ∀ w', Step Nil0 w w' → R (.returned (.int .i64 (idxI (l.findIdx? fun a => a.name.toList == name.toList)))) w') :
    Calls Try.prog 53 #[v, .string name] w R := by
  replace h := Lib.hid h
  obtain ⟨A, cap, rfl, _⟩ := hl.form
  go_enter Try.func53, Try.ntmps53
  go_wp2_with (go_at_call 64; with_reducible (refine indexAttr_c M _ l _ (hl.up (Up.still ((Step.refl _ _).alloc _))) 65 _ (fun a => a.name.toList == name.toList) ?_ ?_ ?_))
  · intro args w'; go_simp
  · intro x w1 hst R1 h1
    exact at1_c x _ name w1 (hst.cell (by simp) (by simp [Nil0])) h1
  · intro w' hst
    go_wp2
    exact h.out _ (((Step.refl _ _).alloc _).then_ hst)

theorem mayAttrs_no {l : List Attr} {k : Nat} (hk : k < l.length) (h : okAttr (l.take k) l[k] = false) : mayAttrs l = false := by
  unfold mayAttrs
  rw [decide_eq_false (p := ∀ i (h : i < l.length), okAttr (l.take i) l[i] = true) (fun hall => by rw [hall k hk] at h; cases h), Bool.false_and]
theorem mayAttrs_end {l : List Attr} (h : ∀ i (hi : i < l.length), okAttr (l.take i) l[i] = true) : mayAttrs l = decide (l.length ≤ 8) := by
  unfold mayAttrs
  rw [decide_eq_true h, Bool.true_and]
/-- The place of a name's first bearer against the bearer's own. -/
theorem at_own {l : List Attr} {k : Nat} (hk : k < l.length) :
    decide (idxI (l.findIdx? fun a => a.name.toList == l[k].name.toList) < (k : Int)) = !((l.take k).all fun a => !(a.name.toList == l[k].name.toList)) := by
  cases hx : (l.take k).all fun a => !(a.name.toList == l[k].name.toList)
  · rw [List.all_eq_false] at hx
    obtain ⟨x, hx, hp⟩ := hx
    obtain ⟨j, hj, rfl⟩ := List.getElem_of_mem hx
    rw [List.length_take] at hj
    rw [List.getElem_take] at hp
    cases hf : l.findIdx? fun a => a.name.toList == l[k].name.toList with
    | none =>
      rw [List.findIdx?_eq_none_iff] at hf
      have := hf _ (List.getElem_mem (show j < l.length by omega))
      simp [this] at hp
    | some i =>
      rw [List.findIdx?_eq_some_iff_getElem] at hf
      obtain ⟨hi, hpi, hlt⟩ := hf
      have : i ≤ j := by
        rcases Nat.lt_or_ge j i with h | h
        · have := hlt j h
          simp at this hp
          exact absurd hp this
        · exact h
      simp only [idxI, Bool.not_false]
      exact decide_eq_true (by omega)
  · rw [List.all_eq_true] at hx
    have hf : l.findIdx? (fun a => a.name.toList == l[k].name.toList) = some k := by
      refine findIdx_stop hk (fun j hj hjk => ?_) (by simp)
      have := hx l[j] (by rw [List.mem_take_iff_getElem]; exact ⟨j, by omega, rfl⟩)
      simpa using this
    rw [hf]
    simp [idxI]

set_option maxHeartbeats 2000000 in
theorem attrMay_c (M : Nat → Prop) (v : Value) (l : List Attr) (w : World) (hl : Sl w M v l) (hsz : ∀ a ∈ l, a.name.size ≤ 9223372036854775807 ∧ a.value.size ≤ 9223372036854775807)
    {R : Ending → World → Prop} (h : ∀ w', Step Nil0 w w' → R (.returned (.bool (mayAttrs l))) w') :
    Calls Try.prog 32 #[v] w R := by
  replace h := Lib.hid h
  replace hsz := Lib.hid hsz
  obtain ⟨A, cap, rfl, hcap, hmax⟩ := hl.form
  have hlen : l.length ≤ 9223372036854775807 := by simp only [maxLen] at hmax; omega
  clear hmax
  go_enter Try.func32, Try.ntmps32
  go_wp2
  go_loopw [7] (fun i wr => ∃ k : Nat, k ≤ l.length ∧ i = .int .i64 k ∧ Step Nil0 w wr ∧ ∀ j (hj : j < l.length), j < k → okAttr (l.take j) l[j] = true) (fun i _ => l.length - (intOf i).toNat)
  case atStart => exact ⟨0, Nat.zero_le _, rfl, Step.refl _ _, fun j _ h => absurd h (by omega)⟩
  case round =>
    obtain ⟨k, hk, rfl, hst, hall⟩ := hrel
    replace hall := Lib.hid hall
    by_cases hlt : k < l.length
    · have hlr := hl.up (Up.still (M := M) hst)
      obtain ⟨ad, hA, hnm, x0, x1, x2⟩ := at_attr hlr k hlt
      subst hA
      replace hnm := Lib.hid hnm
      have hz := hsz.out l[k] (List.getElem_mem hlt)
      have hown := at_own hlt
      have hok : okAttr (l.take k) l[k] = (isName l[k].name && isText l[k].value && (l.take k).all (fun a => !(a.name.toList == l[k].name.toList))) := rfl
      cases h1 : isName l[k].name
      · rw [h1, Bool.false_and, Bool.false_and] at hok
        have hno := h.out
        rw [mayAttrs_no hlt hok] at hno
        replace hno := Lib.hid hno
        clear hok hown
        replace h1 := Lib.hid h1
        go_wp2_with (go_at_call 31; refine name_c _ hz.1 _ ?_; rw [h1.out])
        exact hno.out _ (hst.alloc _)
      cases h2 : isText l[k].value
      · rw [h2, Bool.and_false, Bool.false_and] at hok
        have hno := h.out
        rw [mayAttrs_no hlt hok] at hno
        replace hno := Lib.hid hno
        clear hok hown
        replace h1 := Lib.hid h1
        replace h2 := Lib.hid h2
        go_wp2_with (first | (go_at_call 31; refine name_c _ hz.1 _ ?_; rw [h1.out]) | (go_at_call 30; refine text_c _ hz.2 _ ?_; rw [h2.out]))
        exact hno.out _ (hst.alloc _)
      replace h1 := Lib.hid h1
      replace h2 := Lib.hid h2
      cases h3 : (l.take k).all (fun a => !(a.name.toList == l[k].name.toList))
      · rw [h3, Bool.and_false] at hok
        have hno := h.out
        rw [mayAttrs_no hlt hok] at hno
        replace hno := Lib.hid hno
        rw [h3] at hown
        clear hok
        replace hown := Lib.hid hown
        go_wp2_with (first | (go_at_call 31; refine name_c _ hz.1 _ ?_; rw [h1.out]) | (go_at_call 30; refine text_c _ hz.2 _ ?_; rw [h2.out]) | (go_at_call 53; refine at_c M _ l _ _ (hlr.up (Up.still ((Step.refl _ _).alloc _))) ?_))
        intro w2 hst2
        have e := hown.out
        go_wp2
        exact hno.out _ ((hst.alloc _).then_ hst2)
      · rw [h3, Bool.and_true, h1.out, h2.out] at hok
        replace hok := Lib.hid hok
        rw [h3] at hown
        replace hown := Lib.hid hown
        go_wp2_with (first | (go_at_call 31; refine name_c _ hz.1 _ ?_; rw [h1.out]) | (go_at_call 30; refine text_c _ hz.2 _ ?_; rw [h2.out]) | (go_at_call 53; refine at_c M _ l _ _ (hlr.up (Up.still ((Step.refl _ _).alloc _))) ?_))
        intro w2 hst2
        have e := hown.out
        go_wp2
        go_roundw
        case rel =>
          refine ⟨k + 1, by omega, by go_num, (hst.alloc _).then_ hst2, fun j hj hjk => ?_⟩
          rcases Nat.lt_or_ge j k with h4 | h4
          · exact hall.out j hj h4
          · obtain rfl : j = k := by omega
            exact hok.out
        case measure => simp [intOf]; omega
    · go_wp2
      have hr := h.out wr hst
      rw [mayAttrs_end (fun j hj => hall.out j hj (by omega)), show decide (l.length ≤ 8) = decide ((l.length : Int) ≤ 8) from decide_eq_decide.2 (by omega)] at hr
      exact hr

set_option maxHeartbeats 2000000 in
set_option maxRecDepth 100000 in
theorem rmay_c (M : Nat → Prop) (v : Value) (l : List Attr) (w : World) (hl : Sl w M v l) (hsz : ∀ a ∈ l, a.name.size ≤ 9223372036854775807 ∧ a.value.size ≤ 9223372036854775807)
    {R : Ending → World → Prop} (h : ∀ w', Step Nil0 w w' → R (.returned (.bool (mayAttrs l))) w') :
    Calls Try.prog 40 #[v] w R := by
  replace h := Lib.hid h
  replace hsz := Lib.hid hsz
  obtain ⟨A, cap, rfl, hcap, hmax⟩ := hl.form
  have hlen : l.length ≤ 9223372036854775807 := by simp only [maxLen] at hmax; omega
  clear hmax
  go_enter Try.func40, Try.ntmps40
  go_wp2
  go_loopw [3] (fun i wr => ∃ k : Nat, k ≤ l.length ∧ i = .int .i64 k ∧ Step Nil0 w wr ∧ ∀ j (hj : j < l.length), j < k → okAttr (l.take j) l[j] = true) (fun i _ => l.length - (intOf i).toNat)
  case atStart => exact ⟨0, Nat.zero_le _, rfl, Step.refl _ _, fun j _ h => absurd h (by omega)⟩
  case round =>
    obtain ⟨k, hk, rfl, hst, hall⟩ := hrel
    replace hall := Lib.hid hall
    by_cases hlt : k < l.length
    · have hlr := hl.up (Up.still (M := M) hst)
      obtain ⟨ad, hA, hnm, x0, x1, x2⟩ := at_attr hlr k hlt
      subst hA
      clear hnm
      have hz := hsz.out l[k] (List.getElem_mem hlt)
      have hok : okAttr (l.take k) l[k] = (isName l[k].name && isText l[k].value && (l.take k).all (fun a => !(a.name.toList == l[k].name.toList))) := rfl
      cases h1 : isName l[k].name
      · rw [h1, Bool.false_and, Bool.false_and] at hok
        have hno := h.out
        rw [mayAttrs_no hlt hok] at hno
        replace hno := Lib.hid hno
        clear hok
        replace h1 := Lib.hid h1
        go_wp2_with (first | (go_at_call 39; refine rname_c _ hz.1 _ ?_; rw [h1.out]) | (go_at_call 38; refine rtext_c _ hz.2 _ ?_))
        exact hno.out _ hst
      cases h2 : isText l[k].value
      · rw [h2, Bool.and_false, Bool.false_and] at hok
        have hno := h.out
        rw [mayAttrs_no hlt hok] at hno
        replace hno := Lib.hid hno
        clear hok
        replace h1 := Lib.hid h1
        replace h2 := Lib.hid h2
        go_wp2_with (first | (go_at_call 39; refine rname_c _ hz.1 _ ?_; rw [h1.out]) | (go_at_call 38; refine rtext_c _ hz.2 _ ?_; rw [h2.out]))
        exact hno.out _ hst
      rw [h1, h2, Bool.true_and, Bool.true_and] at hok
      replace h1 := Lib.hid h1
      replace h2 := Lib.hid h2
      replace hok := Lib.hid hok
      go_wp2_with (first | (go_at_call 39; refine rname_c _ hz.1 _ ?_; rw [h1.out]) | (go_at_call 38; refine rtext_c _ hz.2 _ ?_; rw [h2.out]))
      go_loopw [6] (fun i wr' => ∃ q : Nat, q ≤ k ∧ i = .int .i64 q ∧ Step Nil0 w wr' ∧ ∀ j (hj : j < l.length), j < q → (l[j].name.toList == l[k].name.toList) = false) (fun i _ => k - (intOf i).toNat)
      case atStart => exact ⟨0, Nat.zero_le _, rfl, hst, fun j _ h => absurd h (by omega)⟩
      case round =>
        obtain ⟨q, hq, rfl, hst', hne⟩ := hrel
        replace hne := Lib.hid hne
        by_cases hqk : q < k
        · have hlr' := hl.up (Up.still (M := M) hst')
          obtain ⟨ad', hA, hnm, y0, y1, y2⟩ := at_attr hlr' k hlt
          injection hA with hA
          subst hA
          obtain ⟨ad', hA, hnm, z0, z1, z2⟩ := at_attr hlr' q (by omega)
          injection hA with hA
          subst hA
          cases he : (l[q].name.toList == l[k].name.toList)
          · go_wp2
            go_quiet (fail)
            go_wp2
            go_roundw
            case rel =>
              refine ⟨q + 1, by omega, by go_num, hst'.drewN _, fun j hj hjk => ?_⟩
              rcases Nat.lt_or_ge j q with h4 | h4
              · exact hne.out j hj h4
              · obtain rfl : j = q := by omega
                exact he
            case measure => simp [intOf]; omega
          · have hf : okAttr (l.take k) l[k] = false := by
              rw [hok.out, List.all_eq_false]
              exact ⟨l[q], List.mem_take_iff_getElem.2 ⟨q, by omega, rfl⟩, by simp [he]⟩
            have hno := h.out
            rw [mayAttrs_no hlt hf] at hno
            replace hno := Lib.hid hno
            clear hf
            go_wp2
            go_quiet (fail)
            go_wp2
            exact hno.out _ (hst'.drewN _)
        · have hf : okAttr (l.take k) l[k] = true := by
            rw [hok.out, List.all_eq_true]
            intro x hx
            obtain ⟨j, hj, rfl⟩ := List.mem_take_iff_getElem.1 hx
            rw [hne.out j (by omega) (by omega)]; rfl
          replace hf := Lib.hid hf
          go_wp2
          go_roundw
          case rel =>
            refine ⟨k + 1, by omega, by go_num, hst', fun j hj hjk => ?_⟩
            rcases Nat.lt_or_ge j k with h4 | h4
            · exact hall.out j hj h4
            · obtain rfl : j = k := by omega
              exact hf.out
          case measure => simp [intOf]; omega
    · go_wp2
      have hr := h.out wr hst
      rw [mayAttrs_end (fun j hj => hall.out j hj (by omega)), show decide (l.length ≤ 8) = decide ((l.length : Int) ≤ 8) from decide_eq_decide.2 (by omega)] at hr
      exact hr

/-- Equal attributes, as the walk asks it. -/
def attrB (x y : Attr) : Bool := x.name.toList == y.name.toList && (x.value.toList == y.value.toList && x.static == y.static)
theorem attrB_iff (x y : Attr) : attrB x y = true ↔ x = y := by
  unfold attrB
  simp only [Bool.and_eq_true, beq_iff_eq]
  constructor
  · rintro ⟨h1, h2, h3⟩
    obtain ⟨a, b, c⟩ := x
    obtain ⟨d, e, f⟩ := y
    simp only at h1 h2 h3
    rw [str_eq h1, str_eq h2, h3]
  · rintro rfl
    exact ⟨rfl, rfl, rfl⟩

theorem eq_attr (d : Nat) (w : World) (a b a' b' : Str) (c c' : Bool) :
    (Op.equalIn (d + 2) 74 (.agg #[.string a, .string b, .bool c]) (.agg #[.string a', .string b', .bool c'])).run Try.prog w = .ok (a.toList == a'.toList && (b.toList == b'.toList && c == c')) w := by
  cases h1 : (a.toList == a'.toList) <;> cases h2 : (b.toList == b'.toList) <;> cases h3 : (c == c') <;> go_simp

set_option maxHeartbeats 2000000 in
theorem rsame_c (M : Nat → Prop) (v u : Value) (a b : List Attr) (w : World) (hv : Sl w M v a) (hu : Sl w M u b)
    {R : Ending → World → Prop} (h : ∀ w', Step Nil0 w w' → R (.returned (.bool (decide (a = b)))) w') :
    Calls Try.prog 43 #[v, u] w R := by
  replace h := Lib.hid h
  obtain ⟨A, cap, rfl, hcap, hmax⟩ := hv.form
  obtain ⟨B, cap2, rfl, hcap2, hmax2⟩ := hu.form
  have hlen : a.length ≤ 9223372036854775807 := by simp only [maxLen] at hmax; omega
  have hlen2 : b.length ≤ 9223372036854775807 := by simp only [maxLen] at hmax2; omega
  clear hmax hmax2
  by_cases hab : a.length = b.length
  · have hnn : ((a.length : Int) != (b.length : Int)) = false := by simp [hab]
    have hnn2 : (a.length != b.length) = false := by simp [hab]
    go_enter Try.func43, Try.ntmps43
    go_wp2
    go_loopw [5] (fun i wr => ∃ k : Nat, k ≤ a.length ∧ i = .int .i64 k ∧ Step Nil0 w wr ∧ a.take k = b.take k) (fun i _ => a.length - (intOf i).toNat)
    case atStart => exact ⟨0, Nat.zero_le _, rfl, Step.refl _ _, rfl⟩
    case round =>
      obtain ⟨k, hk, rfl, hst, hall⟩ := hrel
      replace hall := Lib.hid hall
      by_cases hlt : k < a.length
      · have hlt2 : k < b.length := by omega
        obtain ⟨ad, hA, hnm, x0, x1, x2⟩ := at_attr (hv.up (Up.still (M := M) hst)) k hlt
        subst hA
        clear hnm
        obtain ⟨ad2, hA, hnm, y0, y1, y2⟩ := at_attr (hu.up (Up.still (M := M) hst)) k hlt2
        subst hA
        clear hnm
        have hq := eq_attr
        cases he : attrB a[k] b[k]
        · have hno := h.out
          rw [decide_eq_false (fun e : a = b => by subst e; rw [(attrB_iff _ _).2 rfl] at he; cases he)] at hno
          replace hno := Lib.hid hno
          unfold attrB at he
          go_wp2
          go_quiet (fail)
          go_wp2
          exact hno.out _ (hst.drewN _)
        · have hnx : a.take (k + 1) = b.take (k + 1) := by
            rw [List.take_succ_eq_append_getElem hlt, List.take_succ_eq_append_getElem hlt2, hall.out, (attrB_iff _ _).1 he]
          replace hnx := Lib.hid hnx
          unfold attrB at he
          go_wp2
          go_quiet (fail)
          go_wp2
          go_roundw
          case rel => exact ⟨k + 1, by omega, by go_num, hst.drewN _, hnx.out⟩
          case measure => simp [intOf]; omega
      · go_wp2
        have hr := h.out wr hst
        have e := hall.out
        rw [List.take_of_length_le (by omega), List.take_of_length_le (by omega)] at e
        rw [decide_eq_true e] at hr
        exact hr
  · have hnn : ((a.length : Int) != (b.length : Int)) = true := by simp; omega
    have hnn2 : (a.length != b.length) = true := by simp [hab]
    have hno := h.out
    rw [decide_eq_false (fun e : a = b => hab (by rw [e]))] at hno
    replace hno := Lib.hid hno
    go_enter Try.func43, Try.ntmps43
    go_wp2
    exact hno.out _ (Step.refl _ _)
end Go.Proofs.Ytfbpjadigmkkkaa
