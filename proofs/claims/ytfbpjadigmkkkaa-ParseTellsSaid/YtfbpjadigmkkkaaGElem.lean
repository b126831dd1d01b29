/- The reference's element, walked (guess by its contract). UNDER WAY. -/
import Derived.Test.YtfbpjadigmkkkaaGuess
namespace Go.Proofs.Ytfbpjadigmkkkaa
open Go.RowKit

theorem bodyPost_cell2 {P : Program} {fn : Func} {R : Ending → World → Prop} {a : Act} {w : World} {v u : Value} (slot s2 : Nat) (t : TypeId) (ad : Addr) (hr : fn.results = #[.cell slot t, .tmp s2]) (ht : a.tmps.getD slot undef = .pointer (some ad))
    (hu : a.tmps.getD s2 undef = u) (hd : a.defers = []) (hl : (loadVar t ad).run P w = .ok v w) (h : R (.returned (.tuple #[v, u])) w) : bodyPost P fn R .ret a w := by
  refine ⟨hd, _, ?_, h⟩
  unfold results
  rw [hr]
  have ht' : a.tmps[slot]?.getD undef = .pointer (some ad) := by simpa using ht
  have hu' : a.tmps[s2]?.getD undef = u := by simpa using hu
  simp [ht', hu', asAddr, hl, Array.mapM_eq_mapM_toList]
theorem str_slice (l : Bs) (a b : Nat) : (str l).extract a b = str ((l.take b).drop a) := by
  rw [Lib.extract_eq, str_data, List.drop_take]; rfl

theorem gA_short {f : Nat} {t : Bs} (h : ((32 :: t).drop (untilL [61] (32 :: t))).length < 2) : gAttrs (f + 1) (32 :: t) = ([], []) := by
  rw [gAttrs, if_pos (show (32 :: t : Bs).headD 0 = 32 from rfl)]
  simp only [if_pos h]
theorem gA_end {f : Nat} {t s1 nm s2 : Bs} (h1 : (32 :: t).drop (untilL [61] (32 :: t)) = s1) (h2 : ¬ s1.length < 2) (hn : ((32 :: t).take (untilL [61] (32 :: t))).drop 1 = nm) (h3 : s1.drop 2 = s2) (h : untilL [34] s2 = s2.length) :
    gAttrs (f + 1) (32 :: t) = ([⟨str nm, str ((unescL (s2.take (untilL [34] s2))).getD []), false⟩], []) := by
  subst h1 h3 hn
  rw [gAttrs, if_pos (show (32 :: t : Bs).headD 0 = 32 from rfl)]
  simp only [if_neg h2, if_pos h]
theorem gA_more {f : Nat} {t s1 nm s2 : Bs} (h1 : (32 :: t).drop (untilL [61] (32 :: t)) = s1) (h2 : ¬ s1.length < 2) (hn : ((32 :: t).take (untilL [61] (32 :: t))).drop 1 = nm) (h3 : s1.drop 2 = s2) (h : untilL [34] s2 ≠ s2.length) :
    gAttrs (f + 1) (32 :: t) = (⟨str nm, str ((unescL (s2.take (untilL [34] s2))).getD []), false⟩ :: (gAttrs f (s2.drop (untilL [34] s2 + 1))).1, (gAttrs f (s2.drop (untilL [34] s2 + 1))).2) := by
  subst h1 h3 hn
  rw [gAttrs, if_pos (show (32 :: t : Bs).headD 0 = 32 from rfl)]
  simp only [if_neg h2, if_neg h]

set_option maxHeartbeats 4000000 in
set_option maxRecDepth 100000 in
theorem gelem_c (n : Nat) (ih : GuessC n) : GElemC n := by
  intro d r w R hl hdn hl6 h
  replace ih := Lib.hid ih
  have hfin : ∀ (T : Tree) (le : Bs), gElemW (gNodes n) d (60 :: r) = (T, le) → ∀ w' va vk, Step Nil0 w w' → Sl w' (Old w.heap.size) va T.attrs → Sl w' (Old w.heap.size) vk T.kids →
      R (.returned (.tuple #[.agg #[.string T.tag, .string T.text, .string T.key, va, vk], .string (str le)])) w' := by
    intro T le hh
    rw [hh] at h
    exact h
  clear h
  replace hfin := Lib.hid hfin
  have hk0 := untilL_pos (signs := [32, 62]) (l := 60 :: r) (by simp) rfl
  have hkl := untilL_le [32, 62] (60 :: r)
  have hun := fun R w => until_s (60 :: r) [32, 62] (by simp only [List.length_cons]; omega) (by decide) w (R := R)
  have hb0 := Blk.new w 38 #[.string ⟨#[]⟩, .string ⟨#[]⟩, .string ⟨#[]⟩, .slice none 0 0, .slice none 0 0]
  have hsz : (str (60 :: r)).size = r.length + 1 := rfl
  generalize hk : untilL [32, 62] (60 :: r) = k at hk0 hkl hun
  replace hk := Lib.hid hk
  replace hun := Lib.hid hun
  have hks : k ≤ (str (60 :: r)).size := hkl
  have hk1 : 1 ≤ k := hk0
  have hk2 : (1 : Int) ≤ (k : Int) := by omega
  have hst0 : Step Nil0 w (w.alloc (.cells #[.string ⟨#[]⟩, .string ⟨#[]⟩, .string ⟨#[]⟩, .slice none 0 0, .slice none 0 0] 38)) := (Step.refl _ _).alloc _
  replace hsz := Lib.hid hsz
  go_enter Try.func37, Try.ntmps37
  go_wp2_with (go_at_call 35; refine hun.out _ _ ?_)
  intro w1 hs1
  have hb1 := hb0.step hs1 (fun h => h)
  have hst1 := hst0.then_ hs1
  have hsl := str_slice (60 :: r) 1 k
  have hdr := str_drop (60 :: r) k
  have hld : ((60 :: r).drop k).length + 1 ≤ r.length + 1 := by rw [List.length_drop, List.length_cons]; omega
  replace hsl := Lib.hid hsl
  replace hdr := Lib.hid hdr
  have hz1 := hst1.size
  have hB0 : w.heap.size < w1.heap.size := Blk.lt hb1
  go_wp2_with (fail)
  rw [hsl.out, hdr.out]
  obtain ⟨tag, htag⟩ : ∃ t, t = ((60 :: r).take k).drop 1 := ⟨_, rfl⟩
  rw [← htag]
  replace htag := Lib.hid htag
  generalize hs0 : (60 :: r).drop k = s0 at hld ⊢
  replace hs0 := Lib.hid hs0
  have hbt := Blk.new w1 38 #[.string (str tag), .string ⟨#[]⟩, .string ⟨#[]⟩, .slice none 0 0, .slice none 0 0]
  have hst2 : Step Nil0 w (w1.alloc (.cells #[.string (str tag), .string ⟨#[]⟩, .string ⟨#[]⟩, .slice none 0 0, .slice none 0 0] 38)) := hst1.alloc _
  have hb2 := hb1.alloc (.cells #[.string (str tag), .string ⟨#[]⟩, .string ⟨#[]⟩, .slice none 0 0, .slice none 0 0] 38)
  go_loopw [0] (fun sv wr => ∃ (acc : List Attr) (s' : Bs) (f : Nat) (v : Value), sv = .string (str s') ∧ s'.length ≤ f ∧ acc.length + s'.length ≤ s0.length ∧ gAttrs s0.length s0 = (acc ++ (gAttrs f s').1, (gAttrs f s').2) ∧
    Blk wr w1.heap.size 38 #[.string (str tag), .string ⟨#[]⟩, .string ⟨#[]⟩, v, .slice none 0 0] ∧ OwnR wr w.heap.size 74 v acc ∧
    Blk wr w.heap.size 38 #[.string ⟨#[]⟩, .string ⟨#[]⟩, .string ⟨#[]⟩, .slice none 0 0, .slice none 0 0] ∧ Step Nil0 w wr) (fun sv _ => strLen sv)
  case atStart => exact ⟨[], s0, s0.length, _, rfl, Nat.le_refl _, by simp, by simp, hbt, OwnR.nil _ _ _, hb2, hst2⟩
  case round =>
    obtain ⟨acc, s', f, v, rfl, hf, hacc, heq, hbr, hown, hb0r, hstr⟩ := hrel
    replace heq := Lib.hid heq
    have hzr := hstr.size
    have hneB := Lib.hid (hown.ne hb0r (by decide))
    have hneT := Lib.hid (hown.ne hbr (by decide))
    have hlo := Lib.hid hown.lt
    obtain ⟨A, cap, rfl, hcap, hmax⟩ := hown.form
    clear hmax
    have y0 : wr.cell? ⟨w1.heap.size, 0, none⟩ = some (.string (str tag)) := by rw [hbr.cell]; rfl
    have y1 : wr.cell? ⟨w1.heap.size, 1, none⟩ = some (.string ⟨#[]⟩) := by rw [hbr.cell]; rfl
    have y2 : wr.cell? ⟨w1.heap.size, 2, none⟩ = some (.string ⟨#[]⟩) := by rw [hbr.cell]; rfl
    have y3 : wr.cell? ⟨w1.heap.size, 3, none⟩ = some (.slice A acc.length cap) := by rw [hbr.cell]; rfl
    have y4 : wr.cell? ⟨w1.heap.size, 4, none⟩ = some (.slice none 0 0) := by rw [hbr.cell]; rfl
    have g0 := hb0r.frozen 0
    have g1 := hb0r.frozen 1
    have g2 := hb0r.frozen 2
    have g3 := hb0r.frozen 3
    have g4 := hb0r.frozen 4
    have q0 : wr.cell? ⟨w.heap.size, 0, none⟩ = some (.string ⟨#[]⟩) := by rw [hb0r.cell]; rfl
    have q1 : wr.cell? ⟨w.heap.size, 1, none⟩ = some (.string ⟨#[]⟩) := by rw [hb0r.cell]; rfl
    have q2 : wr.cell? ⟨w.heap.size, 2, none⟩ = some (.string ⟨#[]⟩) := by rw [hb0r.cell]; rfl
    have q3 : wr.cell? ⟨w.heap.size, 3, none⟩ = some (.slice none 0 0) := by rw [hb0r.cell]; rfl
    have q4 : wr.cell? ⟨w.heap.size, 4, none⟩ = some (.slice none 0 0) := by rw [hb0r.cell]; rfl
    cases s' with
    | nil =>
      have e0 : (str []).size = 0 := rfl
      have e1 : decide (0 < (str []).size) = false := rfl
      have e2 : decide (0 < ((str []).size : Int)) = false := rfl
      have e3 : (((str []).size : Int) == 0) = true := rfl
      have hga : gAttrs f [] = ([], []) := by
        cases f with
        | zero => rfl
        | succ f => rw [gAttrs, if_neg (by decide)]
      have hel : gElemW (gNodes n) d (60 :: r) = (⟨str tag, str [], str [], acc, []⟩, []) := by
        unfold gElemW
        rw [hk.out, ← htag.out, hs0.out, heq.out, hga]
        simp
      replace hga := Lib.hid hga
      replace hel := Lib.hid hel
      go_wp2
      have hB6 := set5_blk hb0r (.string (str tag)) (.string ⟨#[]⟩) (.string ⟨#[]⟩) (.slice A acc.length cap) (.slice none 0 0)
      refine bodyPost_cell2 4 5 38 ⟨w.heap.size, 0, none⟩ rfl rfl rfl rfl (load_tree hB6) ?_
      refine hfin.out _ _ hel.out _ (.slice A acc.length cap) (.slice none 0 0) (set5_step hstr (Nat.le_refl _) _ _ _ _ _) ?_ (Sl.nil _ _)
      exact (hown.attrs (fun k hk => set5_heap (fun e => hneB.out (by rw [hk, e])) _ _ _ _ _)).sl
    | cons c t =>
      have hsz1 : (str (c :: t)).size = t.length + 1 := rfl
      have e1 : decide (0 < (str (c :: t)).size) = true := rfl
      have e2 : decide (0 < ((str (c :: t)).size : Int)) = true := decide_eq_true (by rw [hsz1]; omega)
      have h0s : 0 < (str (c :: t)).size := by rw [hsz1]; omega
      have h1s : 1 ≤ (str (c :: t)).size := h0s
      have hsl6 : (str (c :: t)).size ≤ 1000000 := by rw [hsz1]; simp only [List.length_cons] at hacc; omega
      have hc0 : (str (c :: t))[0] = c := rfl
      by_cases hc : c = 32
      · subst hc
        have hcb : (((str (32 :: t))[0].toNat : Int) == 32) = true := by rw [hc0]; rfl
        obtain ⟨f', rfl⟩ : ∃ f', f = f' + 1 := ⟨f - 1, by simp only [List.length_cons] at hf; omega⟩
        have hk0' := untilL_pos (signs := [61]) (l := 32 :: t) (by simp) rfl
        have hkl' := untilL_le [61] (32 :: t)
        have hunm := fun R w => until_s (32 :: t) [61] (by have := hsl6; rw [hsz1] at this; simp only [List.length_cons]; omega) (by decide) w (R := R)
        have hshort := gA_short (f := f') (t := t)
        have hend := fun s1 nm s2 => gA_end (f := f') (t := t) (s1 := s1) (nm := nm) (s2 := s2)
        have hmore := fun s1 nm s2 => gA_more (f := f') (t := t) (s1 := s1) (nm := nm) (s2 := s2)
        have hslm := str_slice (32 :: t) 1 (untilL [61] (32 :: t))
        have hdrm := str_drop (32 :: t) (untilL [61] (32 :: t))
        generalize untilL [61] (32 :: t) = m at hk0' hkl' hunm hshort hend hmore hslm hdrm
        have hms : m ≤ (str (32 :: t)).size := hkl'
        have hm1 : 1 ≤ m := hk0'
        have hm2 : (1 : Int) ≤ (m : Int) := by omega
        have hld1 : ((32 :: t).drop m).length = t.length + 1 - m := by rw [List.length_drop, List.length_cons]
        generalize hnm : ((32 :: t).take m).drop 1 = nm at hslm
        generalize hs1e : (32 :: t).drop m = s1 at hdrm hshort hld1
        have hend1 := fun s2 => hend s1 nm s2 hs1e
        have hmore1 := fun s2 => hmore s1 nm s2 hs1e
        replace hend1 := Lib.hid hend1
        replace hmore1 := Lib.hid hmore1
        clear hend hmore
        replace hshort := Lib.hid hshort
        replace hnm := Lib.hid hnm
        replace hs1e := Lib.hid hs1e
        replace hslm := Lib.hid hslm
        replace hdrm := Lib.hid hdrm
        replace hunm := Lib.hid hunm
        replace hsz1 := Lib.hid hsz1
        replace hc0 := Lib.hid hc0
        have hs1b : s1.length ≤ 1000000 := by have := hsl6; rw [hsz1.out] at this; omega
        replace hld1 := Lib.hid hld1
        go_wp2_with (go_at_call 35; refine hunm.out _ _ ?_)
        intro w3 hs3
        go_upto_region 8 with (fail)
        rw [hslm.out, hdrm.out]
        have hba4 := Blk.new w3 74 #[.string (str nm), .string ⟨#[]⟩, .bool false]
        have hzt := Blk.lt hbr
        have hzb := Blk.lt hb0r
        have hst4 : Step Nil0 wr (w3.alloc (.cells #[.string (str nm), .string ⟨#[]⟩, .bool false] 74)) := hs3.alloc _
        have hz3 := hs3.size
        generalize w3.alloc (.cells #[.string (str nm), .string ⟨#[]⟩, .bool false] 74) = w4 at hba4 hst4 ⊢
        have hbr4 := hbr.step hst4 (fun h => h)
        have hB4 := hb0r.step hst4 (fun h => h)
        have hown4 := hown.step hst4 (fun b _ hb => hb.elim)
        have hstr4 := hstr.then_ hst4
        have hz4 := hst4.size
        have hza4 := Blk.lt hba4
        clear y0 y1 y2 y3 y4 g0 g1 g2 g3 g4 q0 q1 q2 q3 q4
        have y0 : w4.cell? ⟨w1.heap.size, 0, none⟩ = some (.string (str tag)) := by rw [hbr4.cell]; rfl
        have y1 : w4.cell? ⟨w1.heap.size, 1, none⟩ = some (.string ⟨#[]⟩) := by rw [hbr4.cell]; rfl
        have y2 : w4.cell? ⟨w1.heap.size, 2, none⟩ = some (.string ⟨#[]⟩) := by rw [hbr4.cell]; rfl
        have y3 : w4.cell? ⟨w1.heap.size, 3, none⟩ = some (.slice A acc.length cap) := by rw [hbr4.cell]; rfl
        have y4 : w4.cell? ⟨w1.heap.size, 4, none⟩ = some (.slice none 0 0) := by rw [hbr4.cell]; rfl
        have g0 := hB4.frozen 0
        have g1 := hB4.frozen 1
        have g2 := hB4.frozen 2
        have g3 := hB4.frozen 3
        have g4 := hB4.frozen 4
        have q0 : w4.cell? ⟨w.heap.size, 0, none⟩ = some (.string ⟨#[]⟩) := by rw [hB4.cell]; rfl
        have q1 : w4.cell? ⟨w.heap.size, 1, none⟩ = some (.string ⟨#[]⟩) := by rw [hB4.cell]; rfl
        have q2 : w4.cell? ⟨w.heap.size, 2, none⟩ = some (.string ⟨#[]⟩) := by rw [hB4.cell]; rfl
        have q3 : w4.cell? ⟨w.heap.size, 3, none⟩ = some (.slice none 0 0) := by rw [hB4.cell]; rfl
        have q4 : w4.cell? ⟨w.heap.size, 4, none⟩ = some (.slice none 0 0) := by rw [hB4.cell]; rfl
        have hs1z : (str s1).size = s1.length := rfl
        by_cases hl2 : s1.length < 2
        · have t1 : decide (((str s1).size : Int) < 2) = true := decide_eq_true (by rw [hs1z]; omega)
          have hel : gElemW (gNodes n) d (60 :: r) = (⟨str tag, str [], str [], acc, []⟩, []) := by
            unfold gElemW
            rw [hk.out, ← htag.out, hs0.out, heq.out, hshort.out hl2]
            simp
          replace hel := Lib.hid hel
          replace hs1z := Lib.hid hs1z
          go_wp2
          have hB6 := set5_blk hB4 (.string (str tag)) (.string ⟨#[]⟩) (.string ⟨#[]⟩) (.slice A acc.length cap) (.slice none 0 0)
          refine bodyPost_cell2 4 5 38 ⟨w.heap.size, 0, none⟩ rfl rfl rfl rfl (load_tree hB6) ?_
          exact hfin.out _ _ hel.out _ (.slice A acc.length cap) (.slice none 0 0) (set5_step hstr4 (Nat.le_refl _) (.string (str tag)) (.string ⟨#[]⟩) (.string ⟨#[]⟩) (.slice A acc.length cap) (.slice none 0 0)) ((hown4.attrs (fun k hk => set5_heap (fun e => hneB.out (by rw [hk, e])) _ _ _ _ _)).sl) (Sl.nil _ _)
        · have t1 : decide (((str s1).size : Int) < 2) = false := decide_eq_false (by rw [hs1z]; omega)
          have t2 : 2 ≤ (str s1).size := by rw [hs1z]; omega
          have hdr2 := str_drop s1 2
          have hls2 : (s1.drop 2).length = s1.length - 2 := List.length_drop
          have hend2 := fun s2 (h3 : s1.drop 2 = s2) => hend1.out s2 hl2 hnm.out h3
          have hmore2 := fun s2 (h3 : s1.drop 2 = s2) => hmore1.out s2 hl2 hnm.out h3
          generalize hs2 : s1.drop 2 = s2 at hdr2 hls2 hend2 hmore2
          have hend3 := hend2 s2 rfl
          have hmore3 := hmore2 s2 rfl
          clear hend2 hmore2
          have hunv := fun R w => until_s s2 [34] (by omega) (by decide) w (R := R)
          have hkv := untilL_le [34] s2
          generalize untilL [34] s2 = n2 at hunv hkv hend3 hmore3
          have hget := fun R w => rget_s (s2.take n2) (by rw [List.length_take]; omega) w (R := R)
          rw [← str_take] at hget
          generalize (unescL (s2.take n2)).getD [] = val at hget hend3 hmore3
          have hs2z : (str s2).size = s2.length := rfl
          have hn2s : n2 ≤ (str s2).size := hkv
          have hdr4 := str_drop s2 (n2 + 1)
          replace hs2 := Lib.hid hs2
          replace hend3 := Lib.hid hend3
          replace hmore3 := Lib.hid hmore3
          replace hunv := Lib.hid hunv
          replace hget := Lib.hid hget
          replace hdr2 := Lib.hid hdr2
          replace hdr4 := Lib.hid hdr4
          replace hs1z := Lib.hid hs1z
          replace hs2z := Lib.hid hs2z
          go_upto_region 11 with (fail)
          rw [hdr2.out]
          have hcv := conv34 w4.heap.size (w4.alloc (.cells #[.int .u8 34] 5)) (cell_one_new w4 _ _ 0 _ rfl)
          go_wp2_with (go_at_call 35; refine hunv.out _ _ ?_)
          intro w5 hs5
          go_wp2_with (go_at_call 36; refine hget.out _ _ ?_)
          intro w6 uq hs6
          have hst46 : Step Nil0 w4 w6 := ((((Step.refl Nil0 w4).alloc (.cells #[.int .u8 34] 5)).then_ hs5).then_ hs6)
          have hba6 := hba4.step hst46 (fun h => h)
          have hbr6 := hbr4.step hst46 (fun h => h)
          have hB6 := hB4.step hst46 (fun h => h)
          have hown6 := hown4.step hst46 (fun b _ hb => hb.elim)
          have hstr6 := hstr4.then_ hst46
          have hz6 := hst46.size
          have f1 := hba6.frozen 1
          have x1 : w6.cell? ⟨w3.heap.size, 1, none⟩ = some (.string ⟨#[]⟩) := by rw [hba6.cell]; rfl
          go_upto_region 13 with (fail)
          have hba7 : Blk (w6.setCell ⟨w3.heap.size, 1, none⟩ (.string (str val))) w3.heap.size 74 #[.string (str nm), .string (str val), .bool false] := by
            have := hba6.set_ 1 (.string (str val))
            simpa using this
          have hne1 : w1.heap.size ≠ w3.heap.size := by omega
          have hne0 : w.heap.size ≠ w3.heap.size := by omega
          have hbr7 := hbr6.far (p := ⟨w3.heap.size, 1, none⟩) hne1 (.string (str val))
          have hB7 := hB6.far (p := ⟨w3.heap.size, 1, none⟩) hne0 (.string (str val))
          have hst7 : Step Nil0 w (w6.setCell ⟨w3.heap.size, 1, none⟩ (.string (str val))) := hstr6.setCell (p := ⟨w3.heap.size, 1, none⟩) _ (fun hb => absurd hb (by simp; omega))
          have hlo3 : ∀ b, (Value.slice A acc.length cap).ownBlock = some b → b ≠ w3.heap.size := fun b hb e => by have := (hlo.out b hb).2; omega
          have hown7 : OwnR (w6.setCell ⟨w3.heap.size, 1, none⟩ (.string (str val))) w.heap.size 74 (.slice A acc.length cap) acc :=
            hown6.attrs (fun k hk => Below.heap_setCell _ _ _ _ (hlo3 k hk))
          have hz7 : w6.heap.size ≤ (w6.setCell ⟨w3.heap.size, 1, none⟩ (.string (str val))).heap.size := by simp [World.setCell]
          generalize w6.setCell ⟨w3.heap.size, 1, none⟩ (.string (str val)) = w7 at hba7 hbr7 hB7 hst7 hown7 hz7 ⊢
          clear hba6 hbr6 hB6 hown6 hstr6 hba4 hbr4 hB4 hown4 hstr4 f1 x1 y0 y1 y2 y3 y4 g0 g1 g2 g3 g4 q0 q1 q2 q3 q4 hcv
          have x0 : w7.cell? ⟨w3.heap.size, 0, none⟩ = some (.string (str nm)) := by rw [hba7.cell]; rfl
          have x1 : w7.cell? ⟨w3.heap.size, 1, none⟩ = some (.string (str val)) := by rw [hba7.cell]; rfl
          have x2 : w7.cell? ⟨w3.heap.size, 2, none⟩ = some (.bool false) := by rw [hba7.cell]; rfl
          have y3 : w7.cell? ⟨w1.heap.size, 3, none⟩ = some (.slice A acc.length cap) := by rw [hbr7.cell]; rfl
          have hacl : acc.length ≤ 1000000 := by simp only [List.length_cons] at hacc; omega
          have hb7a : (acc.length + 1) * 40 ≤ 140737488355328 := by omega
          have hb7b : w.heap.size ≤ w7.heap.size := by omega
          go_upto_region 13 with (fail)
          go_wp2_with (at_builtin; (refine wpList_append_r w7 rfl _ _ 36 rfl w.heap.size 74 _ 40 Try.underlying36 info_attr rfl (by decide) (.slice A acc.length cap) acc rfl hown7 (⟨str nm, str val, false⟩ : Attr) _ rfl rfl hb7a hb7b ?_))
          intro v' w8 hown8 hs8
          obtain ⟨A8, c8, rfl, hc8, hm8⟩ := hown8.form
          clear hm8
          have hb8 := hbr7.step hs8 hneT.out
          have hB8 := hB7.step hs8 hneB.out
          have hst8 : Step Nil0 w w8 := hst7.trans hs8 (fun b hlt hb => by have := (hlo.out b hb).1; omega)
          have f8 := hb8.frozen 3
          have x8 := hb8.cell 3
          simp only [List.getElem?_toArray] at x8
          have hne8 := hown8.ne hb8 (by decide)
          go_upto_region 14 with (fail)
          have hlen : (acc ++ [(⟨str nm, str val, false⟩ : Attr)]).length = acc.length + 1 := by simp
          rw [hlen] at hown8 hne8
          rw [hlen]
          have hb9 : Blk (w8.setCell ⟨w1.heap.size, 3, none⟩ (.slice A8 (acc.length + 1) c8)) w1.heap.size 38 #[.string (str tag), .string ⟨#[]⟩, .string ⟨#[]⟩, .slice A8 (acc.length + 1) c8, .slice none 0 0] := by
            have := hb8.set_ 3 (.slice A8 (acc.length + 1) c8)
            simpa using this
          have hB9 := hB8.far (p := ⟨w1.heap.size, 3, none⟩) (by simp; omega) (.slice A8 (acc.length + 1) c8)
          have hst9 : Step Nil0 w (w8.setCell ⟨w1.heap.size, 3, none⟩ (.slice A8 (acc.length + 1) c8)) := hst8.setCell (p := ⟨w1.heap.size, 3, none⟩) _ (fun hb => absurd hb (by simp; omega))
          have hown9 : OwnR (w8.setCell ⟨w1.heap.size, 3, none⟩ (.slice A8 (acc.length + 1) c8)) w.heap.size 74 (.slice A8 (acc.length + 1) c8) (acc ++ [⟨str nm, str val, false⟩]) :=
            hown8.attrs (fun k hk => Below.heap_setCell _ _ _ _ (fun e => hne8 (by rw [hk, e])))
          have hneB9 := Lib.hid (hown9.ne hB9 (by decide))
          generalize w8.setCell ⟨w1.heap.size, 3, none⟩ (.slice A8 (acc.length + 1) c8) = w9 at hb9 hB9 hst9 hown9 hneB9 ⊢
          clear hb8 hB8 hst8 f8 x8 hne8 hown8 hs8 hbr7 hB7 hst7 hown7 x0 x1 x2 y3 hba7
          by_cases hfin2 : n2 = s2.length
          · have t3 : (((n2 : Nat) : Int) == ((str s2).size : Int)) = true := by rw [hs2z.out, hfin2]; simp
            have y0 : w9.cell? ⟨w1.heap.size, 0, none⟩ = some (.string (str tag)) := by rw [hb9.cell]; rfl
            have y1 : w9.cell? ⟨w1.heap.size, 1, none⟩ = some (.string ⟨#[]⟩) := by rw [hb9.cell]; rfl
            have y2 : w9.cell? ⟨w1.heap.size, 2, none⟩ = some (.string ⟨#[]⟩) := by rw [hb9.cell]; rfl
            have y3 : w9.cell? ⟨w1.heap.size, 3, none⟩ = some (.slice A8 (acc.length + 1) c8) := by rw [hb9.cell]; rfl
            have y4 : w9.cell? ⟨w1.heap.size, 4, none⟩ = some (.slice none 0 0) := by rw [hb9.cell]; rfl
            have g0 := hB9.frozen 0
            have g1 := hB9.frozen 1
            have g2 := hB9.frozen 2
            have g3 := hB9.frozen 3
            have g4 := hB9.frozen 4
            have q0 : w9.cell? ⟨w.heap.size, 0, none⟩ = some (.string ⟨#[]⟩) := by rw [hB9.cell]; rfl
            have q1 : w9.cell? ⟨w.heap.size, 1, none⟩ = some (.string ⟨#[]⟩) := by rw [hB9.cell]; rfl
            have q2 : w9.cell? ⟨w.heap.size, 2, none⟩ = some (.string ⟨#[]⟩) := by rw [hB9.cell]; rfl
            have q3 : w9.cell? ⟨w.heap.size, 3, none⟩ = some (.slice none 0 0) := by rw [hB9.cell]; rfl
            have q4 : w9.cell? ⟨w.heap.size, 4, none⟩ = some (.slice none 0 0) := by rw [hB9.cell]; rfl
            have hel : gElemW (gNodes n) d (60 :: r) = (⟨str tag, str [], str [], acc ++ [⟨str nm, str val, false⟩], []⟩, []) := by
              unfold gElemW
              rw [hk.out, ← htag.out, hs0.out, heq.out, hend3.out hfin2]
              simp
            replace hel := Lib.hid hel
            replace hlen := Lib.hid hlen
            replace hfin2 := Lib.hid hfin2
            go_wp2
            have hB6 := set5_blk hB9 (.string (str tag)) (.string ⟨#[]⟩) (.string ⟨#[]⟩) (.slice A8 (acc.length + 1) c8) (.slice none 0 0)
            refine bodyPost_cell2 4 5 38 ⟨w.heap.size, 0, none⟩ rfl rfl rfl rfl (load_tree hB6) ?_
            exact hfin.out _ _ hel.out _ (.slice A8 (acc.length + 1) c8) (.slice none 0 0) (set5_step hst9 (Nat.le_refl _) (.string (str tag)) (.string ⟨#[]⟩) (.string ⟨#[]⟩) (.slice A8 (acc.length + 1) c8) (.slice none 0 0)) ((hown9.attrs (fun k hk => set5_heap (fun e => hneB9.out (by rw [hk, e])) _ _ _ _ _)).sl) (Sl.nil _ _)
          · have t3 : (((n2 : Nat) : Int) == ((str s2).size : Int)) = false := by
              rw [hs2z.out]
              simp only [beq_eq_false_iff_ne, ne_eq]
              omega
            have t4 : n2 + 1 ≤ (str s2).size := by rw [hs2z.out]; omega
            have hnext : gAttrs s0.length s0 = ((acc ++ [⟨str nm, str val, false⟩]) ++ (gAttrs f' (s2.drop (n2 + 1))).1, (gAttrs f' (s2.drop (n2 + 1))).2) := by
              rw [heq.out, hmore3.out hfin2]
              simp
            have hl4 : (s2.drop (n2 + 1)).length = s2.length - (n2 + 1) := List.length_drop
            have hst : s2.length ≤ t.length := by rw [hls2, hld1.out]; omega
            replace hnext := Lib.hid hnext
            replace hlen := Lib.hid hlen
            replace hfin2 := Lib.hid hfin2
            replace hl4 := Lib.hid hl4
            go_wp2
            go_roundw
            case rel =>
              refine ⟨acc ++ [⟨str nm, str val, false⟩], s2.drop (n2 + 1), f', _, by rw [hdr4.out], ?_, ?_, hnext.out, hb9, hown9, hB9, hst9⟩
              · rw [hl4.out]; simp only [List.length_cons] at hf; omega
              · rw [hl4.out, hlen.out]; simp only [List.length_cons] at hacc; omega
            case measure =>
              rw [hdr4.out]
              show (s2.drop (n2 + 1)).length < (32 :: t).length
              rw [hl4.out]
              simp only [List.length_cons]
              omega
      · have hcb : (((str (c :: t))[0].toNat : Int) == 32) = false := by
          rw [hc0]
          simp only [beq_eq_false_iff_ne, ne_eq]
          intro e
          exact hc (UInt8.toNat_inj.1 (by show c.toNat = 32; omega))
        have e3 : (((str (c :: t)).size : Int) == 0) = false := by rw [hsz1]; simp; omega
        have hga : gAttrs f (c :: t) = ([], c :: t) := by
          cases f with
          | zero => simp at hf
          | succ f => rw [gAttrs, if_neg (by simpa using hc)]
        have hdr1 := str_drop (c :: t) 1
        cases ev : isVoid (str tag)
        · have hih := ih.out (d + 1) t wr
          have hcast : ((d + 1 : Nat) : Int) = (d : Int) + 1 := by omega
          rw [hcast] at hih
          generalize hgn : gNodes n (d + 1) t = gr at hih
          obtain ⟨ks, l3⟩ := gr
          dsimp only at hih
          have hl3 : l3.length ≤ t.length := by have := gNodes_le n (d + 1) t; rw [hgn] at this; exact this
          have hel : gElemW (gNodes n) d (60 :: r) = (⟨str tag, str [], str [], acc, ks⟩, l3.drop (tag.length + 3)) := by
            unfold gElemW
            rw [hk.out, ← htag.out, hs0.out, heq.out, hga]
            simp [ev, hgn]
          have htl : t.length ≤ n := by simp only [List.length_cons] at hacc; omega
          have ht6 : t.length < 1000000 := by omega
          rw [show str t = (str (c :: t)).extract 1 (str (c :: t)).size from hdr1.symm] at hih
          replace hgn := Lib.hid hgn
          replace hih := Lib.hid hih
          replace hga := Lib.hid hga
          replace hel := Lib.hid hel
          replace ev := Lib.hid ev
          replace hdr1 := Lib.hid hdr1
          replace hsz1 := Lib.hid hsz1
          replace hc0 := Lib.hid hc0
          replace hc := Lib.hid hc
          go_wp2_with (first | (go_at_call 41; with_reducible (refine rvoid_c _ _ ?_); rw [ev.out]) | (go_at_call 16; refine hih.out _ htl (by omega) ht6 ?_))
          intro w3 vk hs3 hsk
          have hb3 := hbr.step hs3 (fun h => h)
          have hB3 := hb0r.step hs3 (fun h => h)
          have hown3 := hown.step hs3 (fun b _ hb => hb.elim)
          have hst3 := hstr.then_ hs3
          have hz3 := hs3.size
          obtain ⟨K, ck, rfl, hck, hmk3⟩ := hsk.form
          clear hmk3
          have f4 := hb3.frozen 4
          have z4 : w3.cell? ⟨w1.heap.size, 4, none⟩ = some (.slice none 0 0) := by rw [hb3.cell]; rfl
          have htg : (str tag).size ≤ 1000000 := by
            have : (str tag).size = (((60 :: r).take k).drop 1).length := by rw [← htag.out]; rfl
            rw [this, List.length_drop, List.length_take, List.length_cons]; omega
          have hls : (str l3).size ≤ 1000000 := by show l3.length ≤ 1000000; omega
          have hb4 : Blk (w3.setCell ⟨w1.heap.size, 4, none⟩ (.slice K ks.length ck)) w1.heap.size 38 #[.string (str tag), .string ⟨#[]⟩, .string ⟨#[]⟩, .slice A acc.length cap, .slice K ks.length ck] := by
            have := hb3.set_ 4 (.slice K ks.length ck)
            simpa using this
          have hB4 := hB3.far (p := ⟨w1.heap.size, 4, none⟩) (by simp; omega) (.slice K ks.length ck)
          have hst4 : Step Nil0 w (w3.setCell ⟨w1.heap.size, 4, none⟩ (.slice K ks.length ck)) := hst3.setCell (p := ⟨w1.heap.size, 4, none⟩) _ (fun hb => absurd hb (by simp; omega))
          have hown4 : OwnR (w3.setCell ⟨w1.heap.size, 4, none⟩ (.slice K ks.length ck)) w.heap.size 74 (.slice A acc.length cap) acc :=
            hown3.attrs (fun k hk => Below.heap_setCell _ _ _ _ (fun e => hneT.out (by rw [hk, e])))
          have hsk4 : Sl (w3.setCell ⟨w1.heap.size, 4, none⟩ (.slice K ks.length ck)) (Old wr.heap.size) (.slice K ks.length ck) ks :=
            hsk.step0 (fun b hb hn => Below.heap_setCell _ _ _ _ (fun e => hn (by simp only [Old]; simp at e; have := Blk.lt hbr; omega))) (fun b _ hb => hb)
          go_upto_region 24 with (fail)
          generalize w3.setCell ⟨w1.heap.size, 4, none⟩ (.slice K ks.length ck) = w4 at hb4 hB4 hst4 hown4 hsk4 ⊢
          clear hb3 hB3 hown3 hst3 f4 z4 hsk y0 y1 y2 y3 y4 g0 g1 g2 g3 g4 q0 q1 q2 q3 q4
          have y0 : w4.cell? ⟨w1.heap.size, 0, none⟩ = some (.string (str tag)) := by rw [hb4.cell]; rfl
          have y1 : w4.cell? ⟨w1.heap.size, 1, none⟩ = some (.string ⟨#[]⟩) := by rw [hb4.cell]; rfl
          have y2 : w4.cell? ⟨w1.heap.size, 2, none⟩ = some (.string ⟨#[]⟩) := by rw [hb4.cell]; rfl
          have y3 : w4.cell? ⟨w1.heap.size, 3, none⟩ = some (.slice A acc.length cap) := by rw [hb4.cell]; rfl
          have y4 : w4.cell? ⟨w1.heap.size, 4, none⟩ = some (.slice K ks.length ck) := by rw [hb4.cell]; rfl
          have g0 := hB4.frozen 0
          have g1 := hB4.frozen 1
          have g2 := hB4.frozen 2
          have g3 := hB4.frozen 3
          have g4 := hB4.frozen 4
          have q0 : w4.cell? ⟨w.heap.size, 0, none⟩ = some (.string ⟨#[]⟩) := by rw [hB4.cell]; rfl
          have q1 : w4.cell? ⟨w.heap.size, 1, none⟩ = some (.string ⟨#[]⟩) := by rw [hB4.cell]; rfl
          have q2 : w4.cell? ⟨w.heap.size, 2, none⟩ = some (.string ⟨#[]⟩) := by rw [hB4.cell]; rfl
          have q3 : w4.cell? ⟨w.heap.size, 3, none⟩ = some (.slice none 0 0) := by rw [hB4.cell]; rfl
          have q4 : w4.cell? ⟨w.heap.size, 4, none⟩ = some (.slice none 0 0) := by rw [hB4.cell]; rfl
          have hlast : ∀ le : Bs, l3.drop (tag.length + 3) = le → R (.returned (.tuple #[.agg #[.string (str tag), .string ⟨#[]⟩, .string ⟨#[]⟩, .slice A acc.length cap, .slice K ks.length ck], .string (str le)])) (set5 w4 w.heap.size (.string (str tag)) (.string ⟨#[]⟩) (.string ⟨#[]⟩) (.slice A acc.length cap) (.slice K ks.length ck)) := by
            intro le hle
            have hel2 := hel.out
            rw [hle] at hel2
            refine hfin.out _ _ hel2 _ (.slice A acc.length cap) (.slice K ks.length ck) (set5_step hst4 (Nat.le_refl _) _ _ _ _ _) ?_ ?_
            · exact (hown4.attrs (fun k hk => set5_heap (fun e => hneB.out (by rw [hk, e])) _ _ _ _ _)).sl
            · exact hsk4.step0 (fun b hb hn => set5_heap (fun e => hn (by simp only [Old]; have := Blk.lt hb0r; omega)) _ _ _ _ _) (fun b _ hb => by simp only [Old] at hb ⊢; exact Nat.lt_of_lt_of_le hb hzr)
          have hlast2 : ∀ le : Bs, l3.drop (tag.length + 3) = le → R (.returned (.tuple #[.agg #[.string (str tag), .string ⟨#[]⟩, .string ⟨#[]⟩, .slice A acc.length cap, .slice K ks.length ck], .string (str le)])) (set5 w4 w.heap.size (.string (str tag)) (.string ⟨#[]⟩) (.string ⟨#[]⟩) (.slice A acc.length cap) (.slice K ks.length ck)).drew := by
            intro le hle
            have hel2 := hel.out
            rw [hle] at hel2
            refine hfin.out _ _ hel2 _ (.slice A acc.length cap) (.slice K ks.length ck) (set5_step hst4 (Nat.le_refl _) _ _ _ _ _).drew ?_ ?_
            · exact (hown4.attrs (w' := (set5 w4 w.heap.size (.string (str tag)) (.string ⟨#[]⟩) (.string ⟨#[]⟩) (.slice A acc.length cap) (.slice K ks.length ck)).drew) (fun k hk => set5_heap (fun e => hneB.out (by rw [hk, e])) _ _ _ _ _)).sl
            · exact hsk4.step0 (fun b hb hn => set5_heap (fun e => hn (by simp only [Old]; have := Blk.lt hb0r; omega)) _ _ _ _ _) (fun b _ hb => by simp only [Old] at hb ⊢; exact Nat.lt_of_lt_of_le hb hzr)
          replace hlast := Lib.hid hlast
          replace hlast2 := Lib.hid hlast2
          have hB6 := set5_blk hB4 (.string (str tag)) (.string ⟨#[]⟩) (.string ⟨#[]⟩) (.slice A acc.length cap) (.slice K ks.length ck)
          replace hB6 := Lib.hid hB6
          have hdr3 : (str l3).extract ((str tag).size + 3) (str l3).size = str (l3.drop (tag.length + 3)) := str_drop l3 (tag.length + 3)
          have hts : (str tag).size = tag.length := rfl
          replace hdr3 := Lib.hid hdr3
          by_cases hsh : (str l3).size < (str tag).size + 3
          · have t1 : decide (((str l3).size : Int) < ((str tag).size : Int) + 3) = true := decide_eq_true (by omega)
            have hnil : l3.drop (tag.length + 3) = [] := List.drop_eq_nil_of_le (by have : (str l3).size = l3.length := rfl; omega)
            replace hnil := Lib.hid hnil
            replace hts := Lib.hid hts
            go_wp2
            refine bodyPost_cell2 4 5 38 ⟨w.heap.size, 0, none⟩ rfl rfl rfl rfl (load_tree hB6.out) ?_
            exact hlast.out [] hnil.out
          · have t1 : decide (((str l3).size : Int) < ((str tag).size : Int) + 3) = false := decide_eq_false (by omega)
            have t2 : (str tag).size + 3 ≤ (str l3).size := by omega
            replace hts := Lib.hid hts
            go_upto_region 27 with (fail)
            go_region
            go_wp2
            have hB7 : Blk (set5 w4 w.heap.size (.string (str tag)) (.string ⟨#[]⟩) (.string ⟨#[]⟩) (.slice A acc.length cap) (.slice K ks.length ck)).drew w.heap.size 38 #[.string (str tag), .string ⟨#[]⟩, .string ⟨#[]⟩, .slice A acc.length cap, .slice K ks.length ck] := hB6.out
            refine bodyPost_cell2 4 5 38 ⟨w.heap.size, 0, none⟩ rfl rfl rfl rfl (load_tree hB7) ?_
            have hr := hlast2.out _ rfl
            rw [← hdr3.out] at hr
            exact hr
        · have hel : gElemW (gNodes n) d (60 :: r) = (⟨str tag, str [], str [], acc, []⟩, t) := by
            unfold gElemW
            rw [hk.out, ← htag.out, hs0.out, heq.out, hga]
            simp [ev]
          replace hga := Lib.hid hga
          replace hel := Lib.hid hel
          replace ev := Lib.hid ev
          replace hdr1 := Lib.hid hdr1
          replace hsz1 := Lib.hid hsz1
          replace hc0 := Lib.hid hc0
          replace hc := Lib.hid hc
          go_wp2_with (go_at_call 41; with_reducible (refine rvoid_c _ _ ?_); rw [ev.out])
          have hB6 := set5_blk hb0r (.string (str tag)) (.string ⟨#[]⟩) (.string ⟨#[]⟩) (.slice A acc.length cap) (.slice none 0 0)
          refine bodyPost_cell2 4 5 38 ⟨w.heap.size, 0, none⟩ rfl rfl rfl rfl (load_tree hB6) ?_
          have hr := hfin.out _ _ hel.out _ (.slice A acc.length cap) (.slice none 0 0) (set5_step hstr (Nat.le_refl _) (.string (str tag)) (.string ⟨#[]⟩) (.string ⟨#[]⟩) (.slice A acc.length cap) (.slice none 0 0)) ((hown.attrs (fun k hk => set5_heap (fun e => hneB.out (by rw [hk, e])) _ _ _ _ _)).sl) (Sl.nil _ _)
          rw [show str t = (str (c :: t)).extract 1 (str (c :: t)).size from hdr1.out.symm] at hr
          exact hr
end Go.Proofs.Ytfbpjadigmkkkaa
