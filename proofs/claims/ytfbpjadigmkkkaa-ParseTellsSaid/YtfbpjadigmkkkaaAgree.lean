/- The program's parse.Get and the reference's tell the same. -/
import Derived.Test.YtfbpjadigmkkkaaRoundb
namespace Go.Proofs.Ytfbpjadigmkkkaa

theorem unescN_esc : ∀ (n : Nat) (l r : Bs), l.length ≤ n → unescN n l = some r → escL r = l
  | 0, l, r, hn, h => by
    obtain rfl : l = [] := List.eq_nil_of_length_eq_zero (by omega)
    simp [unescN] at h
    subst h; rfl
  | n + 1, [], r, _, h => by
    simp [unescN] at h
    subst h; rfl
  | n + 1, c :: l, r, hn, h => by
    rw [unescN] at h
    split at h
    · cases h
    rename_i h0
    obtain ⟨q, hq, rfl⟩ := Option.map_eq_some_iff.1 h
    have h1 := firstL_hit h0
    have h2 := hasPrefix_sign h1
    have h3 := unescN_esc n _ q (by
      rw [List.length_drop]
      simp only [List.length_cons] at hn ⊢
      omega) hq
    unfold Lib.hasPrefix at h1
    have h4 : (firstL (c :: l)).2 = (signL (firstL (c :: l)).1).length := by rw [h2]
    have e : escL ((firstL (c :: l)).1 :: q) = signL (firstL (c :: l)).1 ++ escL q := by simp [escL]
    rw [e, h3, h4]
    clear h2 h3 h4 e h hq
    generalize (firstL (c :: l)).1 = x at h1 ⊢
    obtain ⟨t, ht⟩ := List.isPrefixOf_iff_prefix.1 h1
    rw [← ht, List.drop_left]
theorem pValue_ok {t : Bs} {bad : Bool} (h : (pValue t bad).2 = false) : bad = false ∧ escL (pValue t bad).1 = t ∧ unescL t = some (pValue t bad).1 := by
  unfold pValue at h ⊢
  rw [Bool.or_eq_false_iff] at h
  cases hu : unescL t with
  | none => rw [hu] at h; cases h.2
  | some r => exact ⟨h.1, unescN_esc _ _ _ (Nat.le_refl _) hu, rfl⟩
theorem pMark_ok {m l : Bs} {bad : Bool} (h : (pMark m l bad).2 = false) : bad = false ∧ (pMark m l bad).1.length + m.length = l.length := by
  unfold pMark at h ⊢
  rw [Bool.or_eq_false_iff, Bool.not_eq_false'] at h
  exact ⟨h.1, trim_hit h.2⟩
theorem pUpto_ok {m l : Bs} {bad : Bool} (h : (pUpto m l bad).2.2 = false) : bad = false ∧ (pUpto m l bad).1.length + m.length + (pUpto m l bad).2.1.length = l.length := by
  unfold pUpto at h ⊢
  rw [Bool.or_eq_false_iff, Bool.not_eq_false'] at h
  refine ⟨h.1, ?_⟩
  have h2 := h.2
  unfold Lib.cut at h2 ⊢
  split at h2
  · rename_i h0
    rw [if_pos h0]
    have := Lib.index_room l m h0
    simp only [List.length_take, List.length_drop]
    omega
  · cases h2
theorem pAttr_ok {l : Bs} {bad : Bool} (h : (pAttr l bad).2.2 = false) : bad = false ∧ (htmlA (pAttr l bad).1).length + (pAttr l bad).2.1.length = l.length ∧ (pAttr l bad).1.static = false := by
  have e : (pAttr l bad).2.2 = (pValue (pUpto [34] (pUpto [61, 34] (pMark [32] l bad).1 (pMark [32] l bad).2).2.1 (pUpto [61, 34] (pMark [32] l bad).1 (pMark [32] l bad).2).2.2).1
    (pUpto [34] (pUpto [61, 34] (pMark [32] l bad).1 (pMark [32] l bad).2).2.1 (pUpto [61, 34] (pMark [32] l bad).1 (pMark [32] l bad).2).2.2).2.2).2 := rfl
  rw [e] at h
  obtain ⟨h4, h4b, _⟩ := pValue_ok h
  obtain ⟨h3, h3b⟩ := pUpto_ok h4
  obtain ⟨h2, h2b⟩ := pUpto_ok h3
  obtain ⟨h1, h1b⟩ := pMark_ok h2
  refine ⟨h1, ?_, rfl⟩
  have h5 := congrArg List.length h4b
  simp only [htmlA, pAttr, str_data, List.length_append, List.length_cons, List.length_nil] at *
  omega
theorem pAttrs_ok : ∀ (n : Nat) (l : Bs) (bad : Bool), (pAttrs n l bad).2.2 = false → bad = false ∧ ((pAttrs n l bad).1.flatMap htmlA).length + (pAttrs n l bad).2.1.length = l.length
  | 0, l, bad, h => by
    simp only [pAttrs] at h ⊢
    exact ⟨h, by simp⟩
  | n + 1, l, bad, h => by
    rw [pAttrs] at h ⊢
    split
    · rename_i hc
      rw [if_pos hc] at h
      exact ⟨h, by simp⟩
    · rename_i hc
      rw [if_neg hc] at h
      obtain ⟨h1, h2⟩ := pAttrs_ok n _ _ h
      obtain ⟨h3, h4, _⟩ := pAttr_ok h1
      refine ⟨h3, ?_⟩
      simp only [List.flatMap_cons, List.length_append]
      omega
theorem pAttrs_static : ∀ (n : Nat) (l : Bs) (bad : Bool), ∀ a ∈ (pAttrs n l bad).1, a.static = false
  | 0, l, bad, a, h => by simp [pAttrs] at h
  | n + 1, l, bad, a, h => by
    rw [pAttrs] at h
    split at h
    · cases h
    · rcases List.mem_cons.1 h with rfl | h
      · rfl
      · exact pAttrs_static n _ _ a h
theorem gAttrs_static : ∀ (n : Nat) (s : Bs), ∀ a ∈ (gAttrs n s).1, a.static = false
  | 0, s, a, h => by simp [gAttrs] at h
  | n + 1, s, a, h => by
    rw [gAttrs] at h
    split at h
    · simp only at h
      split at h
      · cases h
      split at h
      · simp at h; subst h; rfl
      · rcases List.mem_cons.1 h with rfl | h
        · rfl
        · exact gAttrs_static n _ a h
    · cases h
theorem emp_nil : emp (str []) = true := by rw [emp, str_toList]; rfl
theorem norm_mk {tag text : Str} {attrs : List Attr} {kids : List Tree} (ha : ∀ a ∈ attrs, a.static = false) (hk : normTs kids = true) : normT ⟨tag, text, str [], attrs, kids⟩ = true := by
  rw [normT, emp_nil, hk]
  simp only [Bool.true_and, Bool.and_true, List.all_eq_true, Bool.not_eq_true']
  exact ha
theorem pNodes_norm : ∀ (n d : Nat) (l : Bs) (bad : Bool), normTs (pNodes n d l bad).1 = true
  | 0, d, l, bad => by rw [pNodes, normTs]
  | n + 1, d, l, bad => by
    rw [pNodes]
    split
    · rfl
    split
    · simp only [normTs, Bool.and_eq_true]
      refine ⟨?_, pNodes_norm n _ _ _⟩
      unfold pElemW
      simp only
      split
      · exact norm_mk (pAttrs_static _ _ _) rfl
      · exact norm_mk (pAttrs_static _ _ _) (pNodes_norm n _ _ _)
    · simp only [normTs, Bool.and_eq_true]
      exact ⟨norm_mk (fun a h => by cases h) rfl, pNodes_norm n _ _ _⟩
theorem gNodes_norm : ∀ (n d : Nat) (s : Bs), normTs (gNodes n d s).1 = true
  | 0, d, s => by rw [gNodes, normTs]
  | n + 1, d, s => by
    rw [gNodes]
    split
    · rfl
    split
    · simp only [normTs, Bool.and_eq_true]
      exact ⟨norm_mk (fun a h => by cases h) rfl, gNodes_norm n _ _⟩
    split
    · rfl
    · simp only [normTs, Bool.and_eq_true]
      refine ⟨?_, gNodes_norm n _ _⟩
      unfold gElemW
      simp only
      split
      · exact norm_mk (gAttrs_static _ _) rfl
      split
      · exact norm_mk (gAttrs_static _ _) rfl
      · exact norm_mk (gAttrs_static _ _) (gNodes_norm n _ _)

theorem mark60 (r : Bs) (b : Bool) : pMark [60] (60 :: r) b = (r, b) := by
  simp [pMark, Lib.trimPrefix, Lib.hasPrefix]
/-- What an element's reading that stayed good went through. -/
theorem pElem_ok {nodes : Nat → Bs → Bool → List Tree × Bs × Bool} (hbad : ∀ d l bad, (nodes d l bad).2.2 = false → bad = false) {d : Nat} {r : Bs} {bad : Bool} (h : (pElemW nodes d (60 :: r) bad).2.2 = false) :
    bad = false ∧ d < 200 ∧ ∃ (tag : Bs) (as_ : List Attr) (l3 : Bs), tag.length + (as_.flatMap htmlA).length + 1 + l3.length = r.length ∧
      ((isVoid (str tag) = true ∧ pElemW nodes d (60 :: r) bad = (⟨str tag, str [], str [], as_, []⟩, l3, false)) ∨
       (isVoid (str tag) = false ∧ (nodes (d + 1) l3 false).2.2 = false ∧ ∃ l5, l5.length + (3 + tag.length) = (nodes (d + 1) l3 false).2.1.length ∧ pElemW nodes d (60 :: r) bad = (⟨str tag, str [], str [], as_, (nodes (d + 1) l3 false).1⟩, l5, false))) := by
  have hu : pElemW nodes d (60 :: r) bad = pElemW nodes d (60 :: r) bad := rfl
  conv at hu => rhs; unfold pElemW
  rw [mark60] at hu
  dsimp only at hu
  have hah := pAhead_le [32, 62] r
  generalize pAhead [32, 62] r = ra at hu hah
  obtain ⟨tag, l2⟩ := ra
  dsimp only at hu hah
  have hat := pAttrs_ok l2.length l2 (bad || decide (200 ≤ d))
  generalize pAttrs l2.length l2 (bad || decide (200 ≤ d)) = q at hu hat
  obtain ⟨as_, l3, b3⟩ := q
  dsimp only at hu hat
  have hmk := pMark_ok (m := [62]) (l := l3) (bad := b3)
  generalize pMark [62] l3 b3 = z at hu hmk
  obtain ⟨l4, b4⟩ := z
  dsimp only at hu hmk
  cases hv : isVoid (str tag)
  · rw [hv] at hu
    simp only [Bool.false_eq_true, if_false] at hu
    rw [hu] at h
    dsimp only at h
    have hm2 := pMark_ok h
    obtain ⟨hz, hz2⟩ := hm2
    have h4 := hbad _ _ _ hz
    subst h4
    obtain ⟨h5, h6⟩ := hmk rfl
    obtain ⟨h7, h8⟩ := hat h5
    rw [Bool.or_eq_false_iff, decide_eq_false_iff_not] at h7
    refine ⟨h7.1, by omega, tag, as_, l4, ?_, .inr ⟨hv, hz, (pMark ([60, 47] ++ tag ++ [62]) (nodes (d + 1) l4 false).2.1 (nodes (d + 1) l4 false).2.2).1, ?_, ?_⟩⟩
    · simp only [List.length_cons, List.length_nil] at h6; omega
    · simp only [List.length_append, List.length_cons, List.length_nil] at hz2
      omega
    · rw [hu, h]
  · rw [hv] at hu
    simp only [if_true] at hu
    rw [hu] at h
    dsimp only at h
    subst h
    obtain ⟨h5, h6⟩ := hmk rfl
    obtain ⟨h7, h8⟩ := hat h5
    rw [Bool.or_eq_false_iff, decide_eq_false_iff_not] at h7
    refine ⟨h7.1, by omega, tag, as_, l4, ?_, .inl ⟨hv, hu⟩⟩
    simp only [List.length_cons, List.length_nil] at h6; omega
theorem pNodes_bad : ∀ (n d : Nat) (l : Bs) (bad : Bool), (pNodes n d l bad).2.2 = false → bad = false
  | 0, d, l, bad, h => h
  | n + 1, d, l, bad, h => by
    rw [pNodes] at h
    split at h
    · exact h
    split at h
    · rename_i h6
      obtain ⟨r, rfl⟩ := head_prefix h6
      exact (pElem_ok (fun d l bad => pNodes_bad n d l bad) (pNodes_bad n _ _ _ h)).1
    · exact (pValue_ok (pNodes_bad n _ _ _ h)).1

/-- What a reading that stayed good tells: no more HTML than was read; if just as much: plain, and not too deep. -/
def Good (b : Bool) (d : Nat) (ts : List Tree) (l rest : Bs) : Prop :=
  (htmlTs ts).length + rest.length ≤ l.length ∧ ((htmlTs ts).length + rest.length = l.length → plainTs b ts = true ∧ deepTs ts + d ≤ 200)
theorem p_good : ∀ (n d : Nat) (l : Bs) (bad b : Bool), d ≤ 200 → l.length ≤ n → (pNodes n d l bad).2.2 = false → (b = true → l = [] ∨ l.headD 0 = 60) → bad = false ∧ Good b d (pNodes n d l bad).1 l (pNodes n d l bad).2.1 := by
  intro n
  induction n with
  | zero =>
    intro d l bad b hd hl h hb
    rw [pNodes] at h ⊢
    exact ⟨h, by simp [htmlTs], fun _ => ⟨rfl, by simp [deepTs]; omega⟩⟩
  | succ n ih =>
    intro d l bad b hd hl h hb
    rw [pNodes] at h ⊢
    split
    · rename_i hc
      rw [if_pos hc] at h
      exact ⟨h, by simp [htmlTs], fun _ => ⟨rfl, by simp [deepTs]; omega⟩⟩
    rename_i hc
    rw [if_neg hc] at h
    split
    · rename_i h6
      rw [if_pos h6] at h
      dsimp only at h ⊢
      obtain ⟨r, rfl⟩ := head_prefix h6
      have hlt := pElemW_lt (nodes := pNodes n) (fun d l bad => pNodes_le n d l bad) d r bad
      simp only [List.length_cons] at hl hlt
      obtain ⟨k1, k2, k3⟩ := ih d _ _ false hd (by omega) h (fun h => by cases h)
      -- the element
      have key : bad = false ∧ (htmlT (pElemW (pNodes n) d (60 :: r) bad).1).length + (pElemW (pNodes n) d (60 :: r) bad).2.1.length ≤ r.length + 1 ∧
          ((htmlT (pElemW (pNodes n) d (60 :: r) bad).1).length + (pElemW (pNodes n) d (60 :: r) bad).2.1.length = r.length + 1 →
            emp (pElemW (pNodes n) d (60 :: r) bad).1.tag = false ∧ plainT (pElemW (pNodes n) d (60 :: r) bad).1 = true ∧ deepT (pElemW (pNodes n) d (60 :: r) bad).1 + d ≤ 200) := by
        obtain ⟨q1, q2, tag, as_, l3, q3, q4⟩ := pElem_ok (fun d l bad => pNodes_bad n d l bad) k1
        refine ⟨q1, ?_⟩
        rcases q4 with ⟨hv, he⟩ | ⟨hv, hz, l5, hl5, he⟩
        · rw [he]
          have e0 : emp (str tag) = false := by
            cases tag with
            | nil => rw [isVoid, str_toList] at hv; simp at hv
            | cons c t => rw [emp, str_toList]; rfl
          rw [htmlT_elem (by exact e0)]
          dsimp only
          rw [hv]
          simp only [if_true, List.append_nil, List.length_append, List.length_cons, List.length_nil, str_data]
          refine ⟨by omega, fun _ => ⟨e0, by rw [plainT_eq]; rfl, ?_⟩⟩
          rw [deepT_eq]
          dsimp only
          rw [e0]
          simp only [Bool.false_eq_true, if_false, deepTs]
          omega
        · rw [he]
          obtain ⟨_, k4, k5⟩ := ih (d + 1) l3 false false (by omega) (by omega) hz (fun h => by cases h)
          generalize pNodes n (d + 1) l3 false = w at k4 k5 hl5 ⊢
          obtain ⟨ks, l4, b4⟩ := w
          dsimp only at k4 k5 hl5 ⊢
          cases e0 : emp (str tag)
          · rw [htmlT_elem (by exact e0)]
            dsimp only
            rw [hv, ← htmlTs_flat]
            simp only [Bool.false_eq_true, if_false, List.length_append, List.length_cons, List.length_nil, str_data]
            refine ⟨by omega, fun heq => ?_⟩
            obtain ⟨m1, m2⟩ := k5 (by omega)
            refine ⟨trivial, by rw [plainT_eq]; exact m1, ?_⟩
            rw [deepT_eq]
            dsimp only
            rw [e0]
            simp only [Bool.false_eq_true, if_false]
            omega
          · rw [htmlT_text (by exact e0)]
            have : (escL (str []).data.toList).length = 0 := rfl
            dsimp only
            rw [this]
            exact ⟨by omega, fun heq => by omega⟩
      obtain ⟨kb, k4, k5⟩ := key
      generalize pElemW (pNodes n) d (60 :: r) bad = e at k2 k3 k4 k5 hlt ⊢
      obtain ⟨T, l1, b1⟩ := e
      simp only at k2 k3 k4 k5 hlt ⊢
      generalize pNodes n d l1 b1 = q at k2 k3 ⊢
      obtain ⟨ts, l2, b2⟩ := q
      simp only at k2 k3 ⊢
      refine ⟨kb, ?_, fun heq => ?_⟩
      · rw [htmlTs, List.length_append, List.length_cons]; omega
      · rw [htmlTs, List.length_append, List.length_cons] at heq
        obtain ⟨m1, m2, m3⟩ := k5 (by omega)
        obtain ⟨m4, m5⟩ := k3 (by omega)
        rw [plainTs, deepTs, m1, m2, m4]
        exact ⟨rfl, by omega⟩
    · rename_i h6
      rw [if_neg h6] at h
      dsimp only at h ⊢
      have h0 : l ≠ [] := by
        intro e; subst e; simp at hc
      have hlt := pAhead_lt h0 h6
      have hle := pAhead_le [60] l
      have hrest : (pAhead [60] l).2 = [] ∨ (pAhead [60] l).2.headD 0 = 60 := by
        unfold pAhead
        simp only
        rcases Nat.lt_or_ge (untilL [60] l) l.length with hu | hu
        · right
          rw [List.drop_eq_getElem_cons hu]
          have := List.findIdx_getElem (xs := l) (p := fun c => ([60] : Bs).contains c) (w := hu)
          have e : l[untilL [60] l] = 60 := by simpa [untilL] using this
          exact e
        · left; exact List.drop_of_length_le hu
      obtain ⟨k1, k2, k3⟩ := ih d _ _ true hd (by omega) h (fun _ => hrest)
      obtain ⟨v1, v2, _⟩ := pValue_ok k1
      have v3 := congrArg List.length v2
      generalize pValue (pAhead [60] l).1 bad = v at k1 k2 k3 v2 v3 ⊢
      obtain ⟨val, vb⟩ := v
      simp only at k1 k2 k3 v2 v3 ⊢
      have hval : val ≠ [] := by
        intro e
        rw [e] at v3
        simp [escL] at v3
        omega
      refine ⟨v1, ?_, fun heq => ?_⟩
      · rw [htmlTs, htmlT_text (by exact emp_nil), List.length_append]
        simp only [str_data]
        omega
      · rw [htmlTs, htmlT_text (by exact emp_nil), List.length_append] at heq
        simp only [str_data] at heq
        obtain ⟨m4, m5⟩ := k3 (by omega)
        have hbf : b = false := by
          cases b with
          | false => rfl
          | true => rcases hb rfl with e | e; exact absurd e h0; exact absurd e h6
        subst hbf
        have ev : emp (str val) = false := by
          rw [emp, str_toList]
          cases val with
          | nil => exact absurd rfl hval
          | cons c r => rfl
        rw [plainTs, deepTs, plainT_eq, deepT_eq]
        simp only [emp_nil, ev, if_true, m4, Bool.true_and, Bool.or_false, Bool.not_false, plainTs, deepTs]
        exact ⟨trivial, by omega⟩

theorem gGet_eq (l : Bs) : pGet l = gGet l := by
  unfold pGet gGet
  split
  · rfl
  have key : pOk l = true → (pNodes l.length 0 l false).1 = (gNodes l.length 0 l).1 ∧ gOk (gNodes l.length 0 l).1 l = true := by
    intro h
    unfold pOk at h
    simp only [Bool.not_eq_true', Bool.or_eq_false_iff, Bool.not_eq_false', beq_iff_eq, List.any_eq_false, Bool.not_eq_true'] at h
    obtain ⟨h1, h2, h3, h4⟩ := h
    have hn := pNodes_norm l.length 0 l false
    obtain ⟨_, g1, g2⟩ := p_good l.length 0 l false false (by omega) (Nat.le_refl _) h1 (fun h => by cases h)
    generalize pNodes l.length 0 l false = r at *
    obtain ⟨ts, l2, b2⟩ := r
    dsimp only at *
    have hl2 : l2 = [] := by simpa using h2
    subst hl2
    rw [← htmlTs_flat] at h4
    obtain ⟨g3, g4⟩ := g2 (by rw [h4]; simp)
    have hm : ts.all mayTree = true := by
      rw [List.all_eq_true]
      intro t ht
      have := h3 t ht
      simpa using this
    have hr := g_round l.length ts false 0 [] hm hn g3 g4 (.inl rfl) (by rw [List.append_nil, h4]; exact Nat.le_refl _)
    rw [List.append_nil, h4] at hr
    rw [hr]
    refine ⟨rfl, ?_⟩
    unfold gOk
    rw [hm, ← htmlTs_flat, h4, g3]
    simp only [beq_self_eq_true, Bool.true_and, decide_eq_true_eq]
    omega
  have key2 : gOk (gNodes l.length 0 l).1 l = true → pOk l = true := by
    intro h
    unfold gOk at h
    simp only [Bool.and_eq_true, beq_iff_eq, decide_eq_true_eq] at h
    obtain ⟨hm, h4, g3, g4⟩ := h
    have hn := gNodes_norm l.length 0 l
    generalize (gNodes l.length 0 l).1 = ts at *
    rw [← htmlTs_flat] at h4
    have hr := p_round l.length ts false 0 [] hm hn g3 (by omega) (.inl rfl) (by rw [List.append_nil, h4]; exact Nat.le_refl _)
    rw [List.append_nil, h4] at hr
    unfold pOk
    rw [hr]
    dsimp only
    rw [← htmlTs_flat, h4]
    simp only [List.isEmpty_nil, beq_self_eq_true, Bool.not_true, Bool.or_false, Bool.false_or, Bool.not_eq_true']
    rw [List.any_eq_false]
    intro t ht
    rw [List.all_eq_true.1 hm t ht]
    simp
  cases hp : pOk l
  · cases hg : gOk (gNodes l.length 0 l).1 l
    · rfl
    · rw [key2 hg] at hp; cases hp
  · obtain ⟨k1, k2⟩ := key hp
    rw [k2, k1]
end Go.Proofs.Ytfbpjadigmkkkaa
