/- The reference's guess, walked (element by its contract). -/
import Derived.Test.YtfbpjadigmkkkaaGuessL
import Derived.Test.YtfbpjadigmkkkaaParsed
import Derived.Test.YtfbpjadigmkkkaaRefc
namespace Go.Proofs.Ytfbpjadigmkkkaa
open Go.RowKit

theorem until_s (l g : Bs) (hs : l.length ≤ 20000000000000) (hg : g.length ≤ 1000) (w : World) {R : Ending → World → Prop} (h : ∀ w', Step Nil0 w w' → R (.returned (.int .i64 (untilL g l : Nat))) w') :
    Calls Try.prog 35 #[.string (str l), .string (str g)] w R := until_c (str l) (str g) hs hg w h
theorem rget_s (l : Bs) (hs : l.length ≤ 20000000000000) (w : World) {R : Ending → World → Prop} (h : ∀ w' (u : Value), Step Nil0 w w' → R (.returned (.tuple #[.string (str ((unescL l).getD [])), u])) w') :
    Calls Try.prog 36 #[.string (str l)] w R := by
  refine rget_c (str l) hs w (fun w' hst => ?_)
  rw [str_data]
  cases e : unescL l with
  | none => have := h w' (.bool false) hst; rw [e] at this; exact this
  | some r => have := h w' (.bool true) hst; rw [e] at this; exact this

def GuessC (n : Nat) : Prop := ∀ (d : Nat) (s : Bs) (w : World) (R : Ending → World → Prop), s.length ≤ n → d + n ≤ 1000000 → s.length < 1000000 →
  (∀ w' v, Step Nil0 w w' → Sl w' (Old w.heap.size) v (gNodes n d s).1 → R (.returned (.tuple #[v, .string (str (gNodes n d s).2)])) w') →
  Calls Try.prog 16 #[.string (str s), .int .i64 d] w R
def GElemC (n : Nat) : Prop := ∀ (d : Nat) (r : Bs) (w : World) (R : Ending → World → Prop), r.length ≤ n → d + 1 + n ≤ 1000000 → r.length + 1 < 1000000 →
  (∀ w' va vk, Step Nil0 w w' → Sl w' (Old w.heap.size) va (gElemW (gNodes n) d (60 :: r)).1.attrs → Sl w' (Old w.heap.size) vk (gElemW (gNodes n) d (60 :: r)).1.kids →
    R (.returned (.tuple #[.agg #[.string (gElemW (gNodes n) d (60 :: r)).1.tag, .string (gElemW (gNodes n) d (60 :: r)).1.text, .string (gElemW (gNodes n) d (60 :: r)).1.key, va, vk], .string (str (gElemW (gNodes n) d (60 :: r)).2)])) w') →
  Calls Try.prog 37 #[.string (str (60 :: r)), .int .i64 d] w R

theorem guess_zero : GuessC 0 := by
  intro d s w R hl hdn hl6 h
  obtain rfl : s = [] := List.eq_nil_of_length_eq_zero (by omega)
  have h2 := h w _ (Step.refl _ _) (Sl.nil _ _)
  replace h2 := Lib.hid h2
  clear h
  have e0 : (str []).size = 0 := rfl
  have e1 : decide (0 < (str []).size) = false := rfl
  have e2 : decide (0 < ((str []).size : Int)) = false := rfl
  go_enter Try.func16, Try.ntmps16
  go_wp2
  go_loopw [0, 6] (fun s v wr => s = .string (str []) ∧ v = .slice none 0 0 ∧ wr = w) (fun _ _ _ => 0)
  case atStart => exact ⟨rfl, rfl, rfl⟩
  case round =>
    obtain ⟨rfl, rfl, rfl⟩ := hrel
    go_wp2
    exact h2.out

theorem gNodes_stop {n d : Nat} {s : Bs} (h : (s.isEmpty || decide (200 < d)) = true) : gNodes (n + 1) d s = ([], s) := by rw [gNodes, if_pos h]
theorem gNodes_close {n d : Nat} {r : Bs} (hd : d ≤ 200) (h : Lib.hasPrefix (60 :: r) [60, 47] = true) : gNodes (n + 1) d (60 :: r) = ([], 60 :: r) := by
  rw [gNodes, if_neg (by simp; omega), if_neg (by simp), if_pos h]
theorem gNodes_elem {n d : Nat} {r : Bs} (hl : (60 :: r).length ≤ n + 1) (hd : d ≤ 200) (h : Lib.hasPrefix (60 :: r) [60, 47] = false) :
    gNodes (n + 1) d (60 :: r) = ((gElemW (gNodes n) d (60 :: r)).1 :: (gNodes (n + 1) d (gElemW (gNodes n) d (60 :: r)).2).1, (gNodes (n + 1) d (gElemW (gNodes n) d (60 :: r)).2).2) := by
  have hlt := gElemW_lt n d r
  rw [gNodes_more (n + 1) n d (gElemW (gNodes n) d (60 :: r)).2 (by omega) (by omega)]
  conv => lhs; rw [gNodes]
  rw [if_neg (by simp; omega), if_neg (by simp), h]
  simp
theorem gNodes_text {n d : Nat} {s : Bs} (hl : s.length ≤ n + 1) (hd : d ≤ 200) (h0 : s ≠ []) (h6 : s.headD 0 ≠ 60) :
    gNodes (n + 1) d s = (⟨str [], str ((unescL (s.take (untilL [60] s))).getD []), str [], [], []⟩ :: (gNodes (n + 1) d (s.drop (untilL [60] s))).1, (gNodes (n + 1) d (s.drop (untilL [60] s))).2) := by
  have hu := untilL_pos (signs := [60]) h0 (by cases s with | nil => exact absurd rfl h0 | cons c r => simpa using h6)
  have hp : 0 < s.length := List.length_pos_iff.2 h0
  rw [gNodes_more (n + 1) n d (s.drop (untilL [60] s)) (by rw [List.length_drop]; omega) (by rw [List.length_drop]; omega)]
  conv => lhs; rw [gNodes]
  rw [if_neg (by cases s with | nil => exact absurd rfl h0 | cons c r => simp; omega), if_pos h6]

set_option maxHeartbeats 4000000 in
set_option maxRecDepth 100000 in
theorem guess_step (n : Nat) (hE : GElemC n) : GuessC (n + 1) := by
  intro d s w R hl hdn hl6 h
  replace hE := Lib.hid hE
  replace h := Lib.hid h
  have hd6 : (d : Int) ≤ 1000000 := by omega
  go_enter Try.func16, Try.ntmps16
  go_wp2
  go_loopw [0, 6] (fun sv v wr => ∃ (acc : List Tree) (s' : Bs), sv = .string (str s') ∧ acc.length + s'.length ≤ s.length ∧ gNodes (n + 1) d s = (acc ++ (gNodes (n + 1) d s').1, (gNodes (n + 1) d s').2) ∧
      OwnR wr w.heap.size 38 v acc ∧ Step Nil0 w wr) (fun sv _ _ => strLen sv)
  case atStart => exact ⟨[], s, rfl, by simp, by simp, OwnR.nil _ _ _, Step.refl _ _⟩
  case round =>
    obtain ⟨acc, s', rfl, hacc, heq, hown, hst⟩ := hrel
    replace heq := Lib.hid heq
    have hzr := hst.size
    obtain ⟨A, cap, rfl, hcap, hmax⟩ := hown.form
    clear hmax
    have hstop : gNodes (n + 1) d s' = ([], s') → R (.returned (.tuple #[.slice A acc.length cap, .string (str s')])) wr := by
      intro hs
      have hr := h.out wr (.slice A acc.length cap) hst
      rw [heq.out, hs] at hr
      simp only [List.append_nil] at hr
      exact hr hown.sl
    replace hstop := Lib.hid hstop
    have hsz : (str s').size = s'.length := rfl
    cases s' with
    | nil =>
      have hs := hstop.out (gNodes_stop rfl)
      replace hs := Lib.hid hs
      have e0 : (str []).size = 0 := rfl
      have e1 : decide (0 < (str []).size) = false := rfl
      have e2 : decide (0 < ((str []).size : Int)) = false := rfl
      clear hsz
      go_wp2
      exact hs.out
    | cons c r =>
      have e1 : decide (0 < (str (c :: r)).size) = true := rfl
      have e2 : decide (0 < ((str (c :: r)).size : Int)) = true := decide_eq_true (by rw [hsz]; exact Int.natCast_pos.2 (by simp))
      have h0s : 0 < (str (c :: r)).size := by rw [hsz]; simp
      have hsl : (str (c :: r)).size ≤ 1000000 := by rw [hsz]; omega
      by_cases hd2 : d ≤ 200
      case neg =>
        have hs := hstop.out (gNodes_stop (by simp; omega))
        replace hs := Lib.hid hs
        have t0 : decide ((d : Int) ≤ 200) = false := decide_eq_false (by omega)
        clear hsz
        go_wp2
        exact hs.out
      have t0 : decide ((d : Int) ≤ 200) = true := decide_eq_true (by omega)
      have hc0 : (str (c :: r))[0] = c := rfl
      have hlen1 : (c :: r).length = r.length + 1 := rfl
      by_cases hc : c = 60
      · subst hc
        have hcb : (((str (60 :: r))[0].toNat : Int) == 60) = true := by rw [hc0]; rfl
        cases r with
        | nil =>
          have hpre : Lib.hasPrefix ([60] : Bs) [60, 47] = false := rfl
          have s1 : decide (1 < (str [60]).size) = false := rfl
          have s2 : decide (1 < ((str [60]).size : Int)) = false := rfl
          have hle := gElemW_lt n d []
          have hne := gNodes_elem (n := n) (d := d) (r := ([] : Bs)) (by omega) hd2 hpre
          have hel := hE.out d [] wr
          generalize gElemW (gNodes n) d (60 :: []) = re at hle hne hel
          obtain ⟨T, l1⟩ := re
          dsimp only at hle hne hel
          have hnext : gNodes (n + 1) d s = ((acc ++ [T]) ++ (gNodes (n + 1) d l1).1, (gNodes (n + 1) d l1).2) := by
            rw [heq.out, hne]; simp
          have hge : decide ((str (60 :: [])).size ≤ (str l1).size) = false := decide_eq_false (by rw [hsz]; show ¬ (60 :: []).length ≤ l1.length; omega)
          have hge2 : decide (((str (60 :: [])).size : Int) ≤ ((str l1).size : Int)) = false := decide_eq_false (by have : (str l1).size = l1.length := rfl; rw [hsz, this]; omega)
          have hl1s : (str l1).size ≤ 1000000 := by show l1.length ≤ 1000000; omega
          have hal : acc.length ≤ 1000000 := by omega
          have hrn : ([] : Bs).length ≤ n := by omega
          have hr6 : ([] : Bs).length + 1 < 1000000 := by omega
          have hacc2 : (acc ++ [T]).length + l1.length ≤ s.length := by rw [List.length_append]; simp only [List.length_cons, List.length_nil] at *; omega
          replace hnext := Lib.hid hnext
          replace hel := Lib.hid hel
          replace hpre := Lib.hid hpre
          replace hc0 := Lib.hid hc0
          replace hsz := Lib.hid hsz
          replace hlen1 := Lib.hid hlen1
          replace hle := Lib.hid hle
          clear hne heq hstop
          go_wp2_with (go_at_call 37; refine hel.out _ hrn (by omega) hr6 ?_)
          intro w1 va vk hs1 hsa hsk
          obtain ⟨A1, ca1, rfl, _⟩ := hsa.form
          obtain ⟨K1, ck1, rfl, _⟩ := hsk.form
          have hlo0 := hown.lt
          have hst1a : Step Nil0 wr (w1.alloc (.cells #[.string T.tag, .string T.text, .string T.key, .slice A1 T.attrs.length ca1, .slice K1 T.kids.length ck1] 38)) := hs1.alloc _
          have hbt := Blk.new w1 38 #[.string T.tag, .string T.text, .string T.key, .slice A1 T.attrs.length ca1, .slice K1 T.kids.length ck1]
          have hsa2 := hsa.up (Up.still ((Step.refl Nil0 w1).alloc (.cells #[.string T.tag, .string T.text, .string T.key, .slice A1 T.attrs.length ca1, .slice K1 T.kids.length ck1] 38)))
          have hsk2 := hsk.up (Up.still ((Step.refl Nil0 w1).alloc (.cells #[.string T.tag, .string T.text, .string T.key, .slice A1 T.attrs.length ca1, .slice K1 T.kids.length ck1] 38)))
          go_upto_region 11 with (fail)
          have b0 : (w1.alloc (.cells #[.string T.tag, .string T.text, .string T.key, .slice A1 T.attrs.length ca1, .slice K1 T.kids.length ck1] 38)).cell? ⟨w1.heap.size, 0, none⟩ = some (.string T.tag) := by rw [hbt.cell]; rfl
          have b1 : (w1.alloc (.cells #[.string T.tag, .string T.text, .string T.key, .slice A1 T.attrs.length ca1, .slice K1 T.kids.length ck1] 38)).cell? ⟨w1.heap.size, 1, none⟩ = some (.string T.text) := by rw [hbt.cell]; rfl
          have b2 : (w1.alloc (.cells #[.string T.tag, .string T.text, .string T.key, .slice A1 T.attrs.length ca1, .slice K1 T.kids.length ck1] 38)).cell? ⟨w1.heap.size, 2, none⟩ = some (.string T.key) := by rw [hbt.cell]; rfl
          have b3 : (w1.alloc (.cells #[.string T.tag, .string T.text, .string T.key, .slice A1 T.attrs.length ca1, .slice K1 T.kids.length ck1] 38)).cell? ⟨w1.heap.size, 3, none⟩ = some (.slice A1 T.attrs.length ca1) := by rw [hbt.cell]; rfl
          have b4 : (w1.alloc (.cells #[.string T.tag, .string T.text, .string T.key, .slice A1 T.attrs.length ca1, .slice K1 T.kids.length ck1] 38)).cell? ⟨w1.heap.size, 4, none⟩ = some (.slice K1 T.kids.length ck1) := by rw [hbt.cell]; rfl
          clear hbt hsa hsk
          generalize w1.alloc (.cells #[.string T.tag, .string T.text, .string T.key, .slice A1 T.attrs.length ca1, .slice K1 T.kids.length ck1] 38) = w1a at hst1a hsa2 hsk2 b0 b1 b2 b3 b4 ⊢
          have hown1 := hown.step hst1a (fun b _ hb => hb.elim)
          have hlo := hown1.lt
          have hst1 := hst.then_ hst1a
          have hz1 := hst1a.size
          have hy : Rep.c w1a (fun k => k < w.heap.size ∨ (Value.slice A acc.length cap).ownBlock = some k) T [.string T.tag, .string T.text, .string T.key, .slice A1 T.attrs.length ca1, .slice K1 T.kids.length ck1] :=
            Tree.mk_ (hsa2.weak (fun b _ hb => by simp only [Old]; rcases hb with hb | hb; omega; exact (hlo0 b hb).2)) (hsk2.weak (fun b _ hb => by simp only [Old]; rcases hb with hb | hb; omega; exact (hlo0 b hb).2))
          replace hlo := Lib.hid hlo
          replace hlo0 := Lib.hid hlo0
          go_wp2_with (at_builtin; refine wpList_append_r w1a rfl _ _ 23 rfl w.heap.size 38 _ 96 Try.underlying23 info_tree rfl (by decide) (.slice A acc.length cap) acc rfl hown1 T _ hy rfl (by omega) (by omega) ?_)
          intro v' w2 hown2 hs2
          have hst2 : Step Nil0 w w2 := hst1.trans hs2 (fun b hlt hb => by have := (hlo.out b hb).1; omega)
          obtain ⟨A2, ca2, rfl, hca2, hmax2⟩ := hown2.form
          clear hmax2 hy hsa2 hsk2
          go_wp2
          go_roundw
          case rel => exact ⟨acc ++ [T], l1, rfl, hacc2, hnext.out, hown2, hst2⟩
          case measure => exact hle.out
        | cons c2 r2 =>
          have s1 : decide (1 < (str (60 :: c2 :: r2)).size) = true := decide_eq_true (by show 1 < (60 :: c2 :: r2).length; simp)
          have s2 : decide (1 < ((str (60 :: c2 :: r2)).size : Int)) = true := decide_eq_true (by have : (str (60 :: c2 :: r2)).size = r2.length + 2 := rfl; rw [this]; omega)
          have h1s : 1 < (str (60 :: c2 :: r2)).size := by show 1 < (60 :: c2 :: r2).length; simp
          have hc1 : (str (60 :: c2 :: r2))[1] = c2 := rfl
          by_cases hc2 : c2 = 47
          · have hpre : Lib.hasPrefix (60 :: c2 :: r2) [60, 47] = true := by subst hc2; simp [Lib.hasPrefix, List.isPrefixOf]
            have hcc : (((str (60 :: c2 :: r2))[1].toNat : Int) == 47) = true := by rw [hc1, hc2]; rfl
            have hs := hstop.out (gNodes_close hd2 hpre)
            replace hs := Lib.hid hs
            replace hpre := Lib.hid hpre
            replace hc1 := Lib.hid hc1
            replace hc0 := Lib.hid hc0
            replace hc2 := Lib.hid hc2
            clear hsz
            go_wp2
            exact hs.out
          · have hpre : Lib.hasPrefix (60 :: c2 :: r2) [60, 47] = false := by simp [Lib.hasPrefix, List.isPrefixOf, Ne.symm hc2]
            have hcc : (((str (60 :: c2 :: r2))[1].toNat : Int) == 47) = false := by
              rw [hc1]
              simp only [beq_eq_false_iff_ne, ne_eq]
              intro e
              exact hc2 (UInt8.toNat_inj.1 (by show c2.toNat = 47; omega))
            replace hc1 := Lib.hid hc1
            replace hc2 := Lib.hid hc2
            have hle := gElemW_lt n d (c2 :: r2)
            have hne := gNodes_elem (n := n) (d := d) (r := (c2 :: r2)) (by omega) hd2 hpre
            have hel := hE.out d (c2 :: r2) wr
            generalize gElemW (gNodes n) d (60 :: (c2 :: r2)) = re at hle hne hel
            obtain ⟨T, l1⟩ := re
            dsimp only at hle hne hel
            have hnext : gNodes (n + 1) d s = ((acc ++ [T]) ++ (gNodes (n + 1) d l1).1, (gNodes (n + 1) d l1).2) := by
              rw [heq.out, hne]; simp
            have hge : decide ((str (60 :: (c2 :: r2))).size ≤ (str l1).size) = false := decide_eq_false (by rw [hsz]; show ¬ (60 :: (c2 :: r2)).length ≤ l1.length; omega)
            have hge2 : decide (((str (60 :: (c2 :: r2))).size : Int) ≤ ((str l1).size : Int)) = false := decide_eq_false (by have : (str l1).size = l1.length := rfl; rw [hsz, this]; omega)
            have hl1s : (str l1).size ≤ 1000000 := by show l1.length ≤ 1000000; omega
            have hal : acc.length ≤ 1000000 := by omega
            have hrn : (c2 :: r2).length ≤ n := by omega
            have hr6 : (c2 :: r2).length + 1 < 1000000 := by omega
            have hacc2 : (acc ++ [T]).length + l1.length ≤ s.length := by rw [List.length_append]; simp only [List.length_cons, List.length_nil] at *; omega
            replace hnext := Lib.hid hnext
            replace hel := Lib.hid hel
            replace hpre := Lib.hid hpre
            replace hc0 := Lib.hid hc0
            replace hsz := Lib.hid hsz
            replace hlen1 := Lib.hid hlen1
            replace hle := Lib.hid hle
            clear hne heq hstop
            go_wp2_with (go_at_call 37; refine hel.out _ hrn (by omega) hr6 ?_)
            intro w1 va vk hs1 hsa hsk
            obtain ⟨A1, ca1, rfl, _⟩ := hsa.form
            obtain ⟨K1, ck1, rfl, _⟩ := hsk.form
            have hlo0 := hown.lt
            have hst1a : Step Nil0 wr (w1.alloc (.cells #[.string T.tag, .string T.text, .string T.key, .slice A1 T.attrs.length ca1, .slice K1 T.kids.length ck1] 38)) := hs1.alloc _
            have hbt := Blk.new w1 38 #[.string T.tag, .string T.text, .string T.key, .slice A1 T.attrs.length ca1, .slice K1 T.kids.length ck1]
            have hsa2 := hsa.up (Up.still ((Step.refl Nil0 w1).alloc (.cells #[.string T.tag, .string T.text, .string T.key, .slice A1 T.attrs.length ca1, .slice K1 T.kids.length ck1] 38)))
            have hsk2 := hsk.up (Up.still ((Step.refl Nil0 w1).alloc (.cells #[.string T.tag, .string T.text, .string T.key, .slice A1 T.attrs.length ca1, .slice K1 T.kids.length ck1] 38)))
            go_upto_region 11 with (fail)
            have b0 : (w1.alloc (.cells #[.string T.tag, .string T.text, .string T.key, .slice A1 T.attrs.length ca1, .slice K1 T.kids.length ck1] 38)).cell? ⟨w1.heap.size, 0, none⟩ = some (.string T.tag) := by rw [hbt.cell]; rfl
            have b1 : (w1.alloc (.cells #[.string T.tag, .string T.text, .string T.key, .slice A1 T.attrs.length ca1, .slice K1 T.kids.length ck1] 38)).cell? ⟨w1.heap.size, 1, none⟩ = some (.string T.text) := by rw [hbt.cell]; rfl
            have b2 : (w1.alloc (.cells #[.string T.tag, .string T.text, .string T.key, .slice A1 T.attrs.length ca1, .slice K1 T.kids.length ck1] 38)).cell? ⟨w1.heap.size, 2, none⟩ = some (.string T.key) := by rw [hbt.cell]; rfl
            have b3 : (w1.alloc (.cells #[.string T.tag, .string T.text, .string T.key, .slice A1 T.attrs.length ca1, .slice K1 T.kids.length ck1] 38)).cell? ⟨w1.heap.size, 3, none⟩ = some (.slice A1 T.attrs.length ca1) := by rw [hbt.cell]; rfl
            have b4 : (w1.alloc (.cells #[.string T.tag, .string T.text, .string T.key, .slice A1 T.attrs.length ca1, .slice K1 T.kids.length ck1] 38)).cell? ⟨w1.heap.size, 4, none⟩ = some (.slice K1 T.kids.length ck1) := by rw [hbt.cell]; rfl
            clear hbt hsa hsk
            generalize w1.alloc (.cells #[.string T.tag, .string T.text, .string T.key, .slice A1 T.attrs.length ca1, .slice K1 T.kids.length ck1] 38) = w1a at hst1a hsa2 hsk2 b0 b1 b2 b3 b4 ⊢
            have hown1 := hown.step hst1a (fun b _ hb => hb.elim)
            have hlo := hown1.lt
            have hst1 := hst.then_ hst1a
            have hz1 := hst1a.size
            have hy : Rep.c w1a (fun k => k < w.heap.size ∨ (Value.slice A acc.length cap).ownBlock = some k) T [.string T.tag, .string T.text, .string T.key, .slice A1 T.attrs.length ca1, .slice K1 T.kids.length ck1] :=
              Tree.mk_ (hsa2.weak (fun b _ hb => by simp only [Old]; rcases hb with hb | hb; omega; exact (hlo0 b hb).2)) (hsk2.weak (fun b _ hb => by simp only [Old]; rcases hb with hb | hb; omega; exact (hlo0 b hb).2))
            replace hlo := Lib.hid hlo
            replace hlo0 := Lib.hid hlo0
            go_wp2_with (at_builtin; refine wpList_append_r w1a rfl _ _ 23 rfl w.heap.size 38 _ 96 Try.underlying23 info_tree rfl (by decide) (.slice A acc.length cap) acc rfl hown1 T _ hy rfl (by omega) (by omega) ?_)
            intro v' w2 hown2 hs2
            have hst2 : Step Nil0 w w2 := hst1.trans hs2 (fun b hlt hb => by have := (hlo.out b hb).1; omega)
            obtain ⟨A2, ca2, rfl, hca2, hmax2⟩ := hown2.form
            clear hmax2 hy hsa2 hsk2
            go_wp2
            go_roundw
            case rel => exact ⟨acc ++ [T], l1, rfl, hacc2, hnext.out, hown2, hst2⟩
            case measure => exact hle.out
      · have hcb : (((str (c :: r))[0].toNat : Int) == 60) = false := by
          rw [hc0]
          simp only [beq_eq_false_iff_ne, ne_eq]
          intro e
          exact hc (UInt8.toNat_inj.1 (by show c.toNat = 60; omega))
        have hne := gNodes_text (n := n) (d := d) (s := c :: r) (by omega) hd2 (by simp) (by simpa using hc)
        have hk0 := untilL_pos (signs := [60]) (l := c :: r) (by simp) (by simpa using hc)
        have hkl := untilL_le [60] (c :: r)
        have hun := fun R w => until_s (c :: r) [60] (by omega) (by decide) w (R := R)
        generalize untilL [60] (c :: r) = k at hne hk0 hkl hun
        have hget := fun R w => rget_s ((c :: r).take k) (by rw [List.length_take]; omega) w (R := R)
        rw [← str_take] at hget
        have hdrop := str_drop (c :: r) k
        generalize (unescL ((c :: r).take k)).getD [] = val at hne hget
        have hnext : gNodes (n + 1) d s = ((acc ++ [⟨str [], str val, str [], [], []⟩]) ++ (gNodes (n + 1) d ((c :: r).drop k)).1, (gNodes (n + 1) d ((c :: r).drop k)).2) := by
          rw [heq.out, hne]; simp
        have hks : k ≤ (str (c :: r)).size := hkl
        have hld : ((c :: r).drop k).length = (c :: r).length - k := List.length_drop
        replace hnext := Lib.hid hnext
        replace hun := Lib.hid hun
        replace hget := Lib.hid hget
        replace hdrop := Lib.hid hdrop
        replace hc0 := Lib.hid hc0
        replace hc := Lib.hid hc
        replace hsz := Lib.hid hsz
        replace hld := Lib.hid hld
        replace hlen1 := Lib.hid hlen1
        clear hne heq hstop
        go_wp2_with (go_at_call 35; refine hun.out _ _ ?_)
        intro w1 hs1
        go_wp2_with (go_at_call 36; refine hget.out _ _ ?_)
        intro w3 uq hs3
        have hs13 := hs1.then_ hs3
        have hown1 := hown.step hs13 (fun b _ hb => hb.elim)
        have hlo := hown1.lt
        have hst1 := hst.then_ hs13
        have hz1 := hs13.size
        have hy : Rep.c w3 (fun k => k < w.heap.size ∨ (Value.slice A acc.length cap).ownBlock = some k) (⟨str [], str val, str [], [], []⟩ : Tree) [.string ⟨#[]⟩, .string (str val), .string ⟨#[]⟩, .slice none 0 0, .slice none 0 0] :=
          Tree.mk_ (x := ⟨str [], str val, str [], [], []⟩) (Sl.nil _ _) (Sl.nil _ _)
        have hal : acc.length ≤ 1000000 := by omega
        replace hlo := Lib.hid hlo
        go_wp2_with (at_builtin; refine wpList_append_r w3 rfl _ _ 23 rfl w.heap.size 38 _ 96 Try.underlying23 info_tree rfl (by decide) (.slice A acc.length cap) acc rfl hown1 ⟨str [], str val, str [], [], []⟩ _ hy rfl (by omega) (by omega) ?_)
        intro v' w2 hown2 hs2
        have hst2 : Step Nil0 w w2 := hst1.trans hs2 (fun b hlt hb => by have := (hlo.out b hb).1; omega)
        obtain ⟨A2, ca2, rfl, hca2, hmax2⟩ := hown2.form
        clear hmax2 hy
        go_wp2
        go_roundw
        case rel => exact ⟨acc ++ [⟨str [], str val, str [], [], []⟩], (c :: r).drop k, by rw [hdrop.out], by rw [List.length_append, hld.out]; have := hlen1.out; simp only [List.length_cons, List.length_nil] at *; omega, hnext.out, hown2, hst2⟩
        case measure =>
          rw [hdrop.out]
          show ((c :: r).drop k).length < (c :: r).length
          rw [hld.out]
          have := hlen1.out
          omega
end Go.Proofs.Ytfbpjadigmkkkaa
