/- The parser's nodes. -/
import Derived.Test.YtfbpjadigmkkkaaParsec
namespace Go.Proofs.Ytfbpjadigmkkkaa
open Go.RowKit

theorem nodes_zero (p : Nat) (k : Int) : NodesC p 0 k := by
  intro d l bad w R hl hdn hl6 hP hp hm h
  obtain rfl : l = [] := List.eq_nil_of_length_eq_zero (by omega)
  have h1 := fun v h2 => h w v (Step.refl _ _) hP h2
  have h2 := h1 _ (Sl.nil _ _)
  replace h2 := Lib.hid h2
  clear h h1
  have c0 := hP.c0
  have c1 := hP.c1
  have e0 : (str []).toList.isEmpty = true := by rw [str_toList]; rfl
  have e1 : (str []).toList = [] := str_toList _
  go_enter Try.func12, Try.ntmps12
  go_wp2
  go_loopw [5] (fun v wr => v = .slice none 0 0 ∧ wr = w) (fun _ _ => 0)
  case atStart => exact ⟨rfl, rfl⟩
  case round =>
    obtain ⟨rfl, rfl⟩ := hrel
    cases bad
    · go_wp2
      exact h2.out
    · go_wp2
      exact h2.out

theorem pNodes_stop {n d : Nat} {l : Bs} {bad : Bool} (h : (bad || l.isEmpty || Lib.hasPrefix l [60, 47]) = true) : pNodes (n + 1) d l bad = ([], l, bad) := by
  rw [pNodes, if_pos h]
theorem pNodes_elem {n d : Nat} {r : Bs} (hl : (60 :: r).length ≤ n + 1) (h : Lib.hasPrefix (60 :: r) [60, 47] = false) :
    pNodes (n + 1) d (60 :: r) false = ((pElemW (pNodes n) d (60 :: r) false).1 :: (pNodes (n + 1) d (pElemW (pNodes n) d (60 :: r) false).2.1 (pElemW (pNodes n) d (60 :: r) false).2.2).1,
      (pNodes (n + 1) d (pElemW (pNodes n) d (60 :: r) false).2.1 (pElemW (pNodes n) d (60 :: r) false).2.2).2) := by
  have hlt := pElemW_lt (nodes := pNodes n) (fun d l bad => pNodes_le n d l bad) d r false
  rw [pNodes_more (n + 1) n d (pElemW (pNodes n) d (60 :: r) false).2.1 (pElemW (pNodes n) d (60 :: r) false).2.2 (by omega) (by omega)]
  conv => lhs; rw [pNodes]
  rw [h]
  simp
theorem pNodes_text {n d : Nat} {l : Bs} (hl : l.length ≤ n + 1) (h0 : l ≠ []) (h6 : l.headD 0 ≠ 60) (h : Lib.hasPrefix l [60, 47] = false) :
    pNodes (n + 1) d l false = (⟨str [], str (pValue (pAhead [60] l).1 false).1, str [], [], []⟩ :: (pNodes (n + 1) d (pAhead [60] l).2 (pValue (pAhead [60] l).1 false).2).1,
      (pNodes (n + 1) d (pAhead [60] l).2 (pValue (pAhead [60] l).1 false).2).2) := by
  have hlt := pAhead_lt h0 h6
  rw [pNodes_more (n + 1) n d (pAhead [60] l).2 _ (by omega) (by omega)]
  conv => lhs; rw [pNodes]
  rw [h, if_neg (by cases l with | nil => exact absurd rfl h0 | cons c r => simp), if_neg h6]

set_option maxHeartbeats 4000000 in
set_option maxRecDepth 100000 in
theorem nodes_step (p n : Nat) (k : Int) (hE : ElemC p n k) : NodesC p (n + 1) k := by
  intro d l bad w R hl hdn hl6 hP hp hm h
  replace hE := Lib.hid hE
  have hpw := Blk.lt hP
  replace h := Lib.hid h
  go_enter Try.func12, Try.ntmps12
  go_wp2
  go_loopw [5] (fun v wr => ∃ (acc : List Tree) (l' : Bs) (b' : Bool), acc.length + l'.length ≤ l.length ∧ pNodes (n + 1) d l bad = (acc ++ (pNodes (n + 1) d l' b').1, (pNodes (n + 1) d l' b').2) ∧ PBlk wr p l' b' ∧
      OwnR wr w.heap.size 38 v acc ∧ Step (One p) w wr) (fun _ wr => pLen wr p)
  case atStart => exact ⟨[], l, bad, by simp, by simp, hP, OwnR.nil _ _ _, Step.refl _ _⟩
  case round =>
    obtain ⟨acc, l', b', hacc, heq, hPr, hown, hst⟩ := hrel
    replace heq := Lib.hid heq
    have c0 := hPr.c0
    have c1 := hPr.c1
    have hmr := hst.cell hm (fun e => hp e.symm)
    have hzr := hst.size
    obtain ⟨A, cap, rfl, hcap, hmax⟩ := hown.form
    clear hmax
    have hstop : (b' || l'.isEmpty || Lib.hasPrefix l' [60, 47]) = true → R (.returned (.slice A acc.length cap)) wr := by
      intro hs
      have hr := h.out wr (.slice A acc.length cap) hst
      rw [heq.out, pNodes_stop hs] at hr
      simp only [List.append_nil] at hr
      exact hr hPr hown.sl
    replace hstop := Lib.hid hstop
    cases b'
    case true =>
      have hs := hstop.out rfl
      replace hs := Lib.hid hs
      go_wp2
      exact hs.out
    cases l' with
    | nil =>
      have hs := hstop.out rfl
      replace hs := Lib.hid hs
      have e0 : (str []).toList.isEmpty = true := by rw [str_toList]; rfl
      have e1 : (str []).toList = [] := str_toList _
      go_wp2
      exact hs.out
    | cons c r =>
      have e0 : (str (c :: r)).toList.isEmpty = false := by rw [str_toList]; rfl
      cases hpre : Lib.hasPrefix (c :: r) [60, 47]
      case true =>
        have hs := hstop.out (by rw [hpre]; rfl)
        replace hs := Lib.hid hs
        replace hpre := Lib.hid hpre
        go_wp2_with (go_at_call 25; refine prefix_c (str (c :: r)) ⟨#[60, 47]⟩ true hpre.out _ ?_)
        exact hs.out
      have h0s : 0 < (str (c :: r)).size := by show 0 < (c :: r).length; simp
      have hc0 : (str (c :: r))[0] = c := rfl
      have hlen1 : (c :: r).length = r.length + 1 := rfl
      have hpl := PBlk.len hPr
      replace hpl := Lib.hid hpl
      by_cases hc : c = 60
      · subst hc
        have hcb : (((str (60 :: r))[0].toNat : Int) == 60) = true := by rw [hc0]; rfl
        have hle := pElemW_lt (nodes := pNodes n) (fun d l bad => pNodes_le n d l bad) d r false
        have hne := pNodes_elem (n := n) (d := d) (by omega) hpre
        have hel := hE.out d r false wr
        generalize hr : pElemW (pNodes n) d (60 :: r) false = re at hle hne hel
        obtain ⟨T, l1, b1⟩ := re
        simp only at hle hne hel
        clear hr
        have hnext : pNodes (n + 1) d l bad = ((acc ++ [T]) ++ (pNodes (n + 1) d l1 b1).1, (pNodes (n + 1) d l1 b1).2) := by
          rw [heq.out, hne]; simp
        replace hnext := Lib.hid hnext
        replace hel := Lib.hid hel
        replace hpre := Lib.hid hpre
        replace hc0 := Lib.hid hc0
        clear hne heq hstop
        go_wp2_with (first | (go_at_call 25; refine prefix_c (str (60 :: r)) ⟨#[60, 47]⟩ false hpre.out _ ?_) | (go_at_call 26; refine hel.out _ (by omega) (by omega) (by omega) hPr hp hmr ?_))
        intro w1 va vk hs1 hP1 hsa hsk
        have hown1 := hown.step hs1 (fun b _ hb => by simp only [One] at hb; omega)
        have hlo := hown1.lt
        have hlo0 := hown.lt
        have hst1 := hst.then_ hs1
        have hz1 := hs1.size
        have hy : Rep.c w1 (fun k => k < w.heap.size ∨ (Value.slice A acc.length cap).ownBlock = some k) T [.string T.tag, .string T.text, .string T.key, va, vk] :=
          Tree.mk_ (hsa.weak (fun b _ hb => by simp only [Old]; rcases hb with hb | hb; omega; exact (hlo0 b hb).2)) (hsk.weak (fun b _ hb => by simp only [Old]; rcases hb with hb | hb; omega; exact (hlo0 b hb).2))
        replace hlo := Lib.hid hlo
        replace hlo0 := Lib.hid hlo0
        obtain ⟨A1, ca1, rfl, _⟩ := hsa.form
        obtain ⟨K1, ck1, rfl, _⟩ := hsk.form
        go_wp2_with (at_builtin; refine wpList_append_r w1 rfl _ _ 23 rfl w.heap.size 38 _ 96 Try.underlying23 info_tree rfl (by decide) (.slice A acc.length cap) acc rfl hown1 T _ hy rfl (by omega) (by omega) ?_)
        intro v' w2 hown2 hs2
        have hst2 : Step (One p) w w2 := hst1.trans hs2 (fun b hlt hb => by have := (hlo.out b hb).1; omega)
        have hP2 : PBlk w2 p l1 b1 := hP1.step hs2 (fun hb => by have := (hlo.out p hb).1; omega)
        have hpl2 := PBlk.len hP2
        obtain ⟨A2, ca2, rfl, hca2, hmax2⟩ := hown2.form
        clear hmax2
        replace hpl2 := Lib.hid hpl2
        clear hy hsa hsk hP1
        go_wp2
        go_roundw
        case rel => exact ⟨acc ++ [T], l1, b1, by rw [List.length_append]; simp at hle ⊢; omega, hnext.out, hP2, hown2, hst2⟩
        case measure => rw [hpl.out, hpl2.out]; exact hle
      · have hcb : (((str (c :: r))[0].toNat : Int) == 60) = false := by
          rw [hc0]
          simp only [beq_eq_false_iff_ne, ne_eq]
          intro e
          exact hc (UInt8.toNat_inj.1 (by show c.toNat = 60; omega))
        have hle := pAhead_lt (l := c :: r) (by simp) (by simpa using hc)
        have hle1 := pAhead_le [60] (c :: r)
        have hne := pNodes_text (n := n) (d := d) (l := c :: r) (by omega) (by simp) (by simpa using hc) hpre
        have hah := fun R w => ahead_c p (c :: r) [60] false w (R := R)
        generalize hr : pAhead [60] (c :: r) = ra at hle hne hah hle1
        obtain ⟨txt, l1⟩ := ra
        simp only at hle hne hah hle1
        have hva := fun R w => value_c p l1 txt false w (R := R)
        generalize hr2 : pValue txt false = rv at hne hva
        obtain ⟨val, b1⟩ := rv
        simp only at hne hva
        clear hr hr2
        have hnext : pNodes (n + 1) d l bad = ((acc ++ [⟨str [], str val, str [], [], []⟩]) ++ (pNodes (n + 1) d l1 b1).1, (pNodes (n + 1) d l1 b1).2) := by
          rw [heq.out, hne]; simp
        replace hnext := Lib.hid hnext
        replace hah := Lib.hid hah
        replace hva := Lib.hid hva
        replace hpre := Lib.hid hpre
        replace hc0 := Lib.hid hc0
        replace hc := Lib.hid hc
        clear hne heq hstop
        go_wp2_with (first | (go_at_call 25; refine prefix_c (str (c :: r)) ⟨#[60, 47]⟩ false hpre.out _ ?_) | (go_at_call 28; refine hah.out _ _ hPr (by omega) (by decide) (by decide) ?_))
        intro w1 hs1 hP1
        go_wp2_with (go_at_call 27; refine hva.out _ _ hP1 (by omega) ?_)
        intro w3 hs3 hP3
        have hs13 := hs1.then_ hs3
        have hown1 := hown.step hs13 (fun b _ hb => by simp only [One] at hb; omega)
        have hlo := hown1.lt
        have hst1 := hst.then_ hs13
        have hz1 := hs13.size
        have hy : Rep.c w3 (fun k => k < w.heap.size ∨ (Value.slice A acc.length cap).ownBlock = some k) (⟨str [], str val, str [], [], []⟩ : Tree) [.string ⟨#[]⟩, .string (str val), .string ⟨#[]⟩, .slice none 0 0, .slice none 0 0] :=
          Tree.mk_ (x := ⟨str [], str val, str [], [], []⟩) (Sl.nil _ _) (Sl.nil _ _)
        replace hlo := Lib.hid hlo
        go_wp2_with (at_builtin; refine wpList_append_r w3 rfl _ _ 23 rfl w.heap.size 38 _ 96 Try.underlying23 info_tree rfl (by decide) (.slice A acc.length cap) acc rfl hown1 ⟨str [], str val, str [], [], []⟩ _ hy rfl (by omega) (by omega) ?_)
        intro v' w2 hown2 hs2
        have hst2 : Step (One p) w w2 := hst1.trans hs2 (fun b hlt hb => by have := (hlo.out b hb).1; omega)
        have hP2 : PBlk w2 p l1 b1 := hP3.step hs2 (fun hb => by have := (hlo.out p hb).1; omega)
        have hpl2 := PBlk.len hP2
        obtain ⟨A2, ca2, rfl, hca2, hmax2⟩ := hown2.form
        clear hmax2
        replace hpl2 := Lib.hid hpl2
        clear hy hP1 hP3
        go_wp2
        go_roundw
        case rel => exact ⟨acc ++ [⟨str [], str val, str [], [], []⟩], l1, b1, by rw [List.length_append]; simp at hle ⊢; omega, hnext.out, hP2, hown2, hst2⟩
        case measure => rw [hpl.out, hpl2.out]; exact hle

theorem nodes_c (p n : Nat) (k : Int) : NodesC p n k := by
  induction n with
  | zero => exact nodes_zero p k
  | succ n ih => exact nodes_step p n k (element_c p n k ih)
end Go.Proofs.Ytfbpjadigmkkkaa
