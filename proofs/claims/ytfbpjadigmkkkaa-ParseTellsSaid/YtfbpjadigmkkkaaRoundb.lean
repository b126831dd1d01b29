/- A normal forest's HTML is read back as it was, by both readings: elements and texts. -/
import Derived.Test.YtfbpjadigmkkkaaRound
namespace Go.Proofs.Ytfbpjadigmkkkaa

/-- What may stand behind a forest. -/
def Tail (rest : Bs) : Prop := rest = [] ∨ ∃ r, rest = 60 :: 47 :: r
theorem tag_space {s : Str} (h : isName s = true) : ∀ x ∈ s.data.toList, ([32, 62] : Bs).contains x = false := by
  intro x hx
  have h1 := name_no ((isName_all h).1 x hx) (c := 32) (by decide)
  have h2 := name_no ((isName_all h).1 x hx) (c := 62) (by decide)
  simp [h1, h2]
theorem attrs_head (as_ : List Attr) (Z : Bs) : ∃ c r, as_.flatMap htmlA ++ 62 :: Z = c :: r ∧ ([32, 62] : Bs).contains c = true := by
  cases as_ with
  | nil => exact ⟨62, Z, rfl, rfl⟩
  | cons a as_ => exact ⟨32, _, by rw [List.flatMap_cons, List.append_assoc, htmlA_eq], rfl⟩
/-- What stands behind an element's attributes. -/
def bodyL (t : Tree) (rest : Bs) : Bs := if isVoid t.tag then rest else t.kids.flatMap htmlT ++ (([60, 47] ++ t.tag.data.toList ++ [62]) ++ rest)
theorem html_elem_eq {t : Tree} (h : emp t.tag = false) (rest : Bs) : htmlT t ++ rest = 60 :: (t.tag.data.toList ++ (t.attrs.flatMap htmlA ++ 62 :: bodyL t rest)) := by
  rw [htmlT_elem h]
  unfold bodyL
  split <;> simp
theorem tree_elem_eq {t : Tree} (h1 : emp t.text = true) (h2 : emp t.key = true) : (⟨str t.tag.data.toList, str [], str [], t.attrs, t.kids⟩ : Tree) = t := by
  obtain ⟨tag, text, key, attrs, kids⟩ := t
  simp only at h1 h2
  rw [emp_eq h1, emp_eq h2]
  simp only [str_of]
theorem may_elem {t : Tree} (h : emp t.tag = false) (hm : mayTree t = true) :
    isName t.tag = true ∧ emp t.text = true ∧ mayAttrs t.attrs = true ∧ (isVoid t.tag = true → t.kids = []) ∧ t.kids.all mayTree = true := by
  rw [mayTree_elem h] at hm
  simp only [Bool.and_eq_true, Bool.or_eq_true, Bool.not_eq_true', beq_iff_eq] at hm
  obtain ⟨h1, _, h3, h4, h5, h6⟩ := hm
  exact ⟨h1, h3, h4, fun hv => by rcases h5 with h5 | h5; rw [h5] at hv; cases hv; exact List.eq_nil_of_length_eq_zero h5, h6⟩
theorem norm_elem {t : Tree} (h : normT t = true) : emp t.key = true ∧ (∀ a ∈ t.attrs, a.static = false) ∧ normTs t.kids = true := by
  obtain ⟨tag, text, key, attrs, kids⟩ := t
  rw [normT] at h
  simp only [Bool.and_eq_true, List.all_eq_true, Bool.not_eq_true'] at h
  exact ⟨h.1, h.2.1, h.2.2⟩
theorem text_eq {t : Tree} (h : emp t.tag = true) (hm : mayTree t = true) : t = ⟨str [], str t.text.data.toList, str [], [], []⟩ := by
  rw [mayTree_text h] at hm
  simp only [Bool.and_eq_true, beq_iff_eq] at hm
  obtain ⟨h1, h2, h3, _⟩ := hm
  obtain ⟨tag, text, key, attrs, kids⟩ := t
  simp only at h h1 h2 h3
  rw [emp_eq h, emp_eq h1, List.eq_nil_of_length_eq_zero h2, List.eq_nil_of_length_eq_zero h3]
  simp only [str_of]
theorem until_tail {a X : Bs} (ha : ∀ x ∈ a, ([60] : Bs).contains x = false) (hX : X = [] ∨ ∃ r, X = 60 :: r) : untilL [60] (a ++ X) = a.length := by
  rcases hX with rfl | ⟨r, rfl⟩
  · rw [List.append_nil]; exact untilL_all ha
  · exact untilL_app ha rfl

/-- What follows a text in a plain forest opens a tag, or is nothing. -/
theorem after_text {ts : List Tree} {rest : Bs} (hp : plainTs true ts = true) (hr : Tail rest) : htmlTs ts ++ rest = [] ∨ ∃ r, htmlTs ts ++ rest = 60 :: r := by
  cases ts with
  | nil =>
    rw [htmlTs, List.nil_append]
    rcases hr with rfl | ⟨r, rfl⟩
    · exact .inl rfl
    · exact .inr ⟨_, rfl⟩
  | cons t ts =>
    rw [plainTs] at hp
    cases e : emp t.tag
    · rw [htmlTs, List.append_assoc, html_elem_eq e]
      exact .inr ⟨_, rfl⟩
    · rw [e] at hp
      simp at hp

theorem pElem_round {nodes : Nat → Bs → Bool → List Tree × Bs × Bool} {t : Tree} {d : Nat} {rest : Bs} (he : emp t.tag = false) (hm : mayTree t = true) (hn : normT t = true) (hd : d < 200)
    (hk : isVoid t.tag = false → nodes (d + 1) (t.kids.flatMap htmlT ++ (([60, 47] ++ t.tag.data.toList ++ [62]) ++ rest)) false = (t.kids, ([60, 47] ++ t.tag.data.toList ++ [62]) ++ rest, false)) :
    pElemW nodes d (htmlT t ++ rest) false = (t, rest, false) := by
  obtain ⟨h1, h2, h3, h4, _⟩ := may_elem he hm
  obtain ⟨n1, n2, _⟩ := norm_elem hn
  rw [html_elem_eq he]
  obtain ⟨c, r, hc, hcc⟩ := attrs_head t.attrs (bodyL t rest)
  have hu : untilL [32, 62] (t.tag.data.toList ++ (t.attrs.flatMap htmlA ++ 62 :: bodyL t rest)) = t.tag.data.toList.length := by
    rw [hc]; exact untilL_app (tag_space h1) hcc
  have ha := pAttrs_round t.attrs (t.attrs.flatMap htmlA ++ 62 :: bodyL t rest).length (62 :: bodyL t rest) (fun a ha => ⟨mayAttrs_names h3 a ha, n2 a ha⟩) (by show (62 : UInt8) ≠ 32; decide) (Nat.le_refl _)
  have hpa : pAhead [32, 62] (t.tag.data.toList ++ (t.attrs.flatMap htmlA ++ 62 :: bodyL t rest)) = (t.tag.data.toList, t.attrs.flatMap htmlA ++ 62 :: bodyL t rest) := by
    unfold pAhead
    rw [hu, List.take_left, List.drop_left]
  have hmk : pMark [60] (60 :: (t.tag.data.toList ++ (t.attrs.flatMap htmlA ++ 62 :: bodyL t rest))) (false || decide (200 ≤ d)) = (t.tag.data.toList ++ (t.attrs.flatMap htmlA ++ 62 :: bodyL t rest), false) := by
    have := trim_app [60] (t.tag.data.toList ++ (t.attrs.flatMap htmlA ++ 62 :: bodyL t rest))
    simp only [List.cons_append, List.nil_append] at this
    simp [pMark, this.1, this.2]
    omega
  have hmk2 : pMark [62] (62 :: bodyL t rest) false = (bodyL t rest, false) := by
    have := trim_app [62] (bodyL t rest)
    simp only [List.cons_append, List.nil_append] at this
    simp [pMark, this.1, this.2]
  unfold pElemW
  simp only [hmk, hpa, ha, hmk2, str_of]
  cases hv : isVoid t.tag
  · have hb : bodyL t rest = t.kids.flatMap htmlT ++ (([60, 47] ++ t.tag.data.toList ++ [62]) ++ rest) := by unfold bodyL; rw [hv]; rfl
    have h5 := trim_app ([60, 47] ++ t.tag.data.toList ++ [62]) rest
    rw [hb, hk hv]
    have h6 := tree_elem_eq h2 n1
    rw [str_of] at h6
    simp only [Bool.false_eq_true, if_false, pMark, h5.1, h5.2, h6]
    rfl
  · have hb : bodyL t rest = rest := by unfold bodyL; rw [hv]; rfl
    have h6 := tree_elem_eq h2 n1
    rw [str_of, h4 hv] at h6
    rw [hb]
    simp only [if_true, h6]
theorem gElem_round {guess : Nat → Bs → List Tree × Bs} {t : Tree} {d : Nat} {rest : Bs} (he : emp t.tag = false) (hm : mayTree t = true) (hn : normT t = true)
    (hk : isVoid t.tag = false → guess (d + 1) (t.kids.flatMap htmlT ++ (([60, 47] ++ t.tag.data.toList ++ [62]) ++ rest)) = (t.kids, ([60, 47] ++ t.tag.data.toList ++ [62]) ++ rest)) :
    gElemW guess d (htmlT t ++ rest) = (t, rest) := by
  obtain ⟨h1, h2, h3, h4, _⟩ := may_elem he hm
  obtain ⟨n1, n2, _⟩ := norm_elem hn
  rw [html_elem_eq he]
  obtain ⟨c, r, hc, hcc⟩ := attrs_head t.attrs (bodyL t rest)
  have hu : untilL [32, 62] (60 :: (t.tag.data.toList ++ (t.attrs.flatMap htmlA ++ 62 :: bodyL t rest))) = (60 :: t.tag.data.toList).length := by
    rw [hc]
    exact untilL_app (a := 60 :: t.tag.data.toList) (b := r) (fun x hx => by rcases List.mem_cons.1 hx with rfl | hx; rfl; exact tag_space h1 x hx) hcc
  have ht : (60 :: (t.tag.data.toList ++ (t.attrs.flatMap htmlA ++ 62 :: bodyL t rest))).take (60 :: t.tag.data.toList).length = 60 :: t.tag.data.toList := by simp
  have hdr : (60 :: (t.tag.data.toList ++ (t.attrs.flatMap htmlA ++ 62 :: bodyL t rest))).drop (60 :: t.tag.data.toList).length = t.attrs.flatMap htmlA ++ 62 :: bodyL t rest := by simp
  have ha := gAttrs_round t.attrs (t.attrs.flatMap htmlA ++ 62 :: bodyL t rest).length (62 :: bodyL t rest) (fun a ha => ⟨mayAttrs_names h3 a ha, n2 a ha⟩) (by show (62 : UInt8) ≠ 32; decide) (Nat.le_refl _)
  unfold gElemW
  rw [hu, ht, hdr, ha]
  simp only [List.drop_succ_cons, List.drop_zero, List.isEmpty_cons, Bool.false_eq_true, if_false, str_of]
  have h6 := tree_elem_eq h2 n1
  rw [str_of] at h6
  cases hv : isVoid t.tag
  · have hb : bodyL t rest = t.kids.flatMap htmlT ++ (([60, 47] ++ t.tag.data.toList ++ [62]) ++ rest) := by unfold bodyL; rw [hv]; rfl
    rw [hb, hk hv]
    have hl : t.tag.data.toList.length + 3 = ([60, 47] ++ t.tag.data.toList ++ [62]).length := by simp
    simp only [Bool.false_eq_true, if_false]
    rw [hl, List.drop_left, h6]
  · have hb : bodyL t rest = rest := by unfold bodyL; rw [hv]; rfl
    rw [h4 hv] at h6
    rw [hb]
    simp only [if_true, h6]

theorem p_round : ∀ (n : Nat) (ts : List Tree) (b : Bool) (d : Nat) (rest : Bs), ts.all mayTree = true → normTs ts = true → plainTs b ts = true → deepTs ts + d ≤ 200 → Tail rest → (htmlTs ts ++ rest).length ≤ n →
    pNodes n d (htmlTs ts ++ rest) false = (ts, rest, false) := by
  intro n
  induction n with
  | zero =>
    intro ts b d rest hm hn hp hd hr hl
    cases ts with
    | nil => rfl
    | cons t ts =>
      exfalso
      rw [htmlTs, List.length_append, List.length_append] at hl
      rw [plainTs] at hp
      cases e : emp t.tag
      · rw [htmlT_elem e] at hl
        simp only [List.length_append, List.length_cons, List.length_nil] at hl
        omega
      · rw [htmlT_text e] at hl
        have h0 : escL t.text.data.toList = [] := List.eq_nil_of_length_eq_zero (by omega)
        have h1 := escL_nil h0
        rw [e] at hp
        have h2 : t.text = str [] := by rw [← str_of t.text, h1]
        rw [h2] at hp
        simp [emp, str_toList] at hp
  | succ n ih =>
    intro ts b d rest hm hn hp hd hr hl
    cases ts with
    | nil =>
      rw [htmlTs, List.nil_append, pNodes, if_pos]
      rcases hr with rfl | ⟨r, rfl⟩
      · rfl
      · simp [Lib.hasPrefix, List.isPrefixOf]
    | cons t ts =>
      rw [List.all_cons, Bool.and_eq_true] at hm
      rw [normTs, Bool.and_eq_true] at hn
      rw [plainTs] at hp
      simp only [Bool.and_eq_true] at hp
      rw [deepTs] at hd
      rw [htmlTs, List.append_assoc] at hl ⊢
      obtain ⟨hp1, hp2, hp3⟩ := hp
      cases e : emp t.tag
      · rw [e] at hp3
        have hne : htmlT t ++ (htmlTs ts ++ rest) = 60 :: (t.tag.data.toList ++ (t.attrs.flatMap htmlA ++ 62 :: bodyL t (htmlTs ts ++ rest))) := html_elem_eq e _
        obtain ⟨h1, _, _, _, hk⟩ := may_elem e hm.1
        obtain ⟨_, _, nk⟩ := norm_elem hn.1
        have hdt := deepT_eq t
        rw [e] at hdt
        simp only [Bool.false_eq_true, if_false] at hdt
        have hpre : Lib.hasPrefix (60 :: (t.tag.data.toList ++ (t.attrs.flatMap htmlA ++ 62 :: bodyL t (htmlTs ts ++ rest)))) [60, 47] = false := by
          obtain ⟨hall, hnil⟩ := isName_all h1
          cases hh : t.tag.data.toList with
          | nil => exact absurd hh hnil
          | cons c r =>
            have := name_no (hall c (by rw [hh]; exact List.mem_cons_self)) (c := 47) (by decide)
            simp [Lib.hasPrefix, List.isPrefixOf, Ne.symm this]
        have hel : pElemW (pNodes n) d (htmlT t ++ (htmlTs ts ++ rest)) false = (t, htmlTs ts ++ rest, false) := by
          refine pElem_round e hm.1 hn.1 (by omega) (fun hv => ?_)
          rw [← htmlTs_flat]
          refine ih t.kids false (d + 1) _ hk nk (by rw [← plainT_eq]; exact hp2) (by omega) (.inr ⟨t.tag.data.toList ++ 62 :: (htmlTs ts ++ rest), by simp⟩) ?_
          rw [html_elem_eq e] at hl
          unfold bodyL at hl
          rw [hv, ← htmlTs_flat] at hl
          simp only [Bool.false_eq_true, if_false, List.length_cons, List.length_append] at hl ⊢
          omega
        have hl2 : (htmlTs ts ++ rest).length ≤ n := by
          rw [hne] at hl
          have : (htmlTs ts ++ rest).length ≤ (bodyL t (htmlTs ts ++ rest)).length := by
            unfold bodyL
            split
            · exact Nat.le_refl _
            · simp only [List.length_append]; omega
          simp only [List.length_cons, List.length_append] at hl this ⊢
          omega
        rw [pNodes]
        rw [hne] at hel ⊢
        rw [hpre, if_neg (by simp), if_pos (by rfl), hel]
        simp only
        rw [ih ts false d rest hm.2 hn.2 hp3 (by omega) hr hl2]
      · rw [e] at hp3 hp1
        simp only [Bool.true_and, Bool.not_eq_true', Bool.or_eq_false_iff] at hp1
        have htx := emp_ne hp1.1
        have heq := text_eq e hm.1
        rw [htmlT_text e] at hl ⊢
        have hno : ∀ x ∈ escL t.text.data.toList, ([60] : Bs).contains x = false := by
          intro x hx
          have := (escL_no _ x hx).2
          simp [this]
        have hne : escL t.text.data.toList ≠ [] := fun h => htx (escL_nil h)
        have hu := until_tail hno (after_text hp3 hr)
        have hunes := unescL_escL t.text.data.toList
        generalize escL t.text.data.toList = q at hl hno hne hu hunes ⊢
        obtain ⟨c, r, rfl⟩ : ∃ c r, q = c :: r := by
          cases q with
          | nil => exact absurd rfl hne
          | cons c r => exact ⟨c, r, rfl⟩
        have hc : c ≠ 60 := by
          have := hno c List.mem_cons_self
          simpa using this
        rw [pNodes, if_neg (by simp [Lib.hasPrefix, List.isPrefixOf, Ne.symm hc]), if_neg (by simpa using hc)]
        have hpa : pAhead [60] (c :: r ++ (htmlTs ts ++ rest)) = (c :: r, htmlTs ts ++ rest) := by
          unfold pAhead
          rw [hu, List.take_left, List.drop_left]
        rw [hpa]
        simp only [pValue, hunes, Option.getD_some, Option.isNone_some, Bool.or_false]
        rw [ih ts true d rest hm.2 hn.2 hp3 (by omega) hr (by simp only [List.length_append, List.length_cons] at hl ⊢; omega)]
        simp only
        rw [← heq]
theorem g_round : ∀ (n : Nat) (ts : List Tree) (b : Bool) (d : Nat) (rest : Bs), ts.all mayTree = true → normTs ts = true → plainTs b ts = true → deepTs ts + d ≤ 200 → Tail rest → (htmlTs ts ++ rest).length ≤ n →
    gNodes n d (htmlTs ts ++ rest) = (ts, rest) := by
  intro n
  induction n with
  | zero =>
    intro ts b d rest hm hn hp hd hr hl
    cases ts with
    | nil => rfl
    | cons t ts =>
      exfalso
      rw [htmlTs, List.length_append, List.length_append] at hl
      rw [plainTs] at hp
      cases e : emp t.tag
      · rw [htmlT_elem e] at hl
        simp only [List.length_append, List.length_cons, List.length_nil] at hl
        omega
      · rw [htmlT_text e] at hl
        have h0 : escL t.text.data.toList = [] := List.eq_nil_of_length_eq_zero (by omega)
        have h1 := escL_nil h0
        rw [e] at hp
        have h2 : t.text = str [] := by rw [← str_of t.text, h1]
        rw [h2] at hp
        simp [emp, str_toList] at hp
  | succ n ih =>
    intro ts b d rest hm hn hp hd hr hl
    cases ts with
    | nil =>
      rw [htmlTs, List.nil_append, gNodes]
      rcases hr with rfl | ⟨r, rfl⟩
      · rfl
      · rw [if_neg (by simp; omega), if_neg (by simp), if_pos (by simp [Lib.hasPrefix, List.isPrefixOf])]
    | cons t ts =>
      rw [List.all_cons, Bool.and_eq_true] at hm
      rw [normTs, Bool.and_eq_true] at hn
      rw [plainTs] at hp
      simp only [Bool.and_eq_true] at hp
      rw [deepTs] at hd
      rw [htmlTs, List.append_assoc] at hl ⊢
      obtain ⟨hp1, hp2, hp3⟩ := hp
      cases e : emp t.tag
      · rw [e] at hp3
        have hne : htmlT t ++ (htmlTs ts ++ rest) = 60 :: (t.tag.data.toList ++ (t.attrs.flatMap htmlA ++ 62 :: bodyL t (htmlTs ts ++ rest))) := html_elem_eq e _
        obtain ⟨h1, _, _, _, hk⟩ := may_elem e hm.1
        obtain ⟨_, _, nk⟩ := norm_elem hn.1
        have hdt := deepT_eq t
        rw [e] at hdt
        simp only [Bool.false_eq_true, if_false] at hdt
        have hpre : Lib.hasPrefix (60 :: (t.tag.data.toList ++ (t.attrs.flatMap htmlA ++ 62 :: bodyL t (htmlTs ts ++ rest)))) [60, 47] = false := by
          obtain ⟨hall, hnil⟩ := isName_all h1
          cases hh : t.tag.data.toList with
          | nil => exact absurd hh hnil
          | cons c r =>
            have := name_no (hall c (by rw [hh]; exact List.mem_cons_self)) (c := 47) (by decide)
            simp [Lib.hasPrefix, List.isPrefixOf, Ne.symm this]
        have hel : gElemW (gNodes n) d (htmlT t ++ (htmlTs ts ++ rest)) = (t, htmlTs ts ++ rest) := by
          refine gElem_round e hm.1 hn.1 (fun hv => ?_)
          rw [← htmlTs_flat]
          refine ih t.kids false (d + 1) _ hk nk (by rw [← plainT_eq]; exact hp2) (by omega) (.inr ⟨t.tag.data.toList ++ 62 :: (htmlTs ts ++ rest), by simp⟩) ?_
          rw [html_elem_eq e] at hl
          unfold bodyL at hl
          rw [hv, ← htmlTs_flat] at hl
          simp only [Bool.false_eq_true, if_false, List.length_cons, List.length_append] at hl ⊢
          omega
        have hl2 : (htmlTs ts ++ rest).length ≤ n := by
          rw [hne] at hl
          have : (htmlTs ts ++ rest).length ≤ (bodyL t (htmlTs ts ++ rest)).length := by
            unfold bodyL
            split
            · exact Nat.le_refl _
            · simp only [List.length_append]; omega
          simp only [List.length_cons, List.length_append] at hl this ⊢
          omega
        rw [gNodes]
        rw [hne] at hel ⊢
        rw [if_neg (by simp; omega), if_neg (by simp), hpre, if_neg (by simp), hel]
        simp only
        rw [ih ts false d rest hm.2 hn.2 hp3 (by omega) hr hl2]
      · rw [e] at hp3 hp1
        simp only [Bool.true_and, Bool.not_eq_true', Bool.or_eq_false_iff] at hp1
        have htx := emp_ne hp1.1
        have heq := text_eq e hm.1
        rw [htmlT_text e] at hl ⊢
        have hno : ∀ x ∈ escL t.text.data.toList, ([60] : Bs).contains x = false := by
          intro x hx
          have := (escL_no _ x hx).2
          simp [this]
        have hne : escL t.text.data.toList ≠ [] := fun h => htx (escL_nil h)
        have hu := until_tail hno (after_text hp3 hr)
        have hunes := unescL_escL t.text.data.toList
        generalize escL t.text.data.toList = q at hl hno hne hu hunes ⊢
        obtain ⟨c, r, rfl⟩ : ∃ c r, q = c :: r := by
          cases q with
          | nil => exact absurd rfl hne
          | cons c r => exact ⟨c, r, rfl⟩
        have hc : c ≠ 60 := by
          have := hno c List.mem_cons_self
          simpa using this
        rw [gNodes, if_neg (by simp; omega), if_pos (by simpa using hc), hu, List.take_left, List.drop_left]
        simp only [hunes, Option.getD_some]
        rw [ih ts true d rest hm.2 hn.2 hp3 (by omega) hr (by simp only [List.length_append, List.length_cons] at hl ⊢; omega)]
        simp only
        rw [← heq]
end Go.Proofs.Ytfbpjadigmkkkaa
