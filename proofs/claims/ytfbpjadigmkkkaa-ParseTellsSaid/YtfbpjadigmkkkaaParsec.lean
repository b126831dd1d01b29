/- The parser's element and nodes. -/
import Derived.Test.YtfbpjadigmkkkaaParseb
import Derived.Deep.RegionLaw
import Derived.Deep.Cut
import Derived.Deep.DeepCutAuto
namespace Go.Proofs.Ytfbpjadigmkkkaa
open Go.RowKit

/-- What nodes does, as a contract (n: the fuel). -/
def NodesC (p n : Nat) (k : Int) : Prop := ∀ (d : Nat) (l : Bs) (bad : Bool) (w : World) (R : Ending → World → Prop), l.length ≤ n → d + n ≤ 1000000 → l.length < 1000000 → PBlk w p l bad → p ≠ 0 → w.cell? ⟨0, 0, none⟩ = some (.int .i64 k) →
  (∀ w' v, Step (One p) w w' → PBlk w' p (pNodes n d l bad).2.1 (pNodes n d l bad).2.2 → Sl w' (Old w.heap.size) v (pNodes n d l bad).1 → R (.returned v) w') →
  Calls Try.prog 12 #[.pointer (some ⟨p, 0, none⟩), .int .i64 d] w R
def ElemC (p n : Nat) (k : Int) : Prop := ∀ (d : Nat) (l : Bs) (bad : Bool) (w : World) (R : Ending → World → Prop), l.length ≤ n → d + 1 + n ≤ 1000000 → l.length + 1 < 1000000 → PBlk w p (60 :: l) bad → p ≠ 0 → w.cell? ⟨0, 0, none⟩ = some (.int .i64 k) →
  (∀ w' va vk, Step (One p) w w' → PBlk w' p (pElemW (pNodes n) d (60 :: l) bad).2.1 (pElemW (pNodes n) d (60 :: l) bad).2.2 → Sl w' (Old w.heap.size) va (pElemW (pNodes n) d (60 :: l) bad).1.attrs →
    Sl w' (Old w.heap.size) vk (pElemW (pNodes n) d (60 :: l) bad).1.kids → R (.returned (.agg #[.string (pElemW (pNodes n) d (60 :: l) bad).1.tag, .string (pElemW (pNodes n) d (60 :: l) bad).1.text, .string (pElemW (pNodes n) d (60 :: l) bad).1.key, va, vk])) w') →
  Calls Try.prog 26 #[.pointer (some ⟨p, 0, none⟩), .int .i64 d] w R

theorem info_attr : (Try.prog.info? 74).map (fun i => (i.zero, i.size, i.bytes)) = some (some (.agg #[.string ⟨#[]⟩, .string ⟨#[]⟩, .bool false]), 3, 40) := by kernel_rfl
theorem info_tree : (Try.prog.info? 38).map (fun i => (i.zero, i.size, i.bytes)) = some (some (.agg #[.string ⟨#[]⟩, .string ⟨#[]⟩, .string ⟨#[]⟩, .slice none 0 0, .slice none 0 0]), 5, 96) := by kernel_rfl
theorem OwnR.attrs {w w' : World} {B : Nat} {e : TypeId} {v : Value} {xs : List Attr} (h : OwnR w B e v xs) (hv : ∀ k, v.ownBlock = some k → w'.heap[k]? = w.heap[k]?) : OwnR w' B e v xs := by
  obtain ⟨cs, ho, hr⟩ := h
  refine ⟨cs, ownsRow_of ho hv, ?_⟩
  clear ho hv
  induction xs generalizing cs with
  | nil => exact hr
  | cons x xs ih =>
    obtain ⟨c1, c2, e1, h1, h2⟩ := hr
    exact ⟨c1, c2, e1, h1, ih _ h2⟩
def pLen (w : World) (p : Nat) : Nat := match w.cell? ⟨p, 0, none⟩ with | some (.string s) => s.size | _ => 0
theorem PBlk.len {w : World} {p : Nat} {l : Bs} {bad : Bool} (h : PBlk w p l bad) : pLen w p = l.length := by
  unfold pLen
  rw [h.c0]; rfl
theorem pMark_lt (l : Bs) (b : Bool) : pMark [60] (60 :: l) b = (l, b) := by
  simp [pMark, Lib.trimPrefix, Lib.hasPrefix]

/-! ### A tree's five cells, written -/
def set5 (w : World) (b : Nat) (a0 a1 a2 a3 a4 : Value) : World :=
  ((((w.setCell ⟨b, 0, none⟩ a0).setCell ⟨b, 1, none⟩ a1).setCell ⟨b, 2, none⟩ a2).setCell ⟨b, 3, none⟩ a3).setCell ⟨b, 4, none⟩ a4
theorem set5_blk {w : World} {b : Nat} {t : TypeId} {z0 z1 z2 z3 z4 : Value} (h : Blk w b t #[z0, z1, z2, z3, z4]) (a0 a1 a2 a3 a4 : Value) : Blk (set5 w b a0 a1 a2 a3 a4) b t #[a0, a1, a2, a3, a4] := by
  have := ((((h.set_ 0 a0).set_ 1 a1).set_ 2 a2).set_ 3 a3).set_ 4 a4
  simpa [set5] using this
theorem set5_step {M : Nat → Prop} {w0 w : World} {b : Nat} (h : Step M w0 w) (hb : w0.heap.size ≤ b) (a0 a1 a2 a3 a4 : Value) : Step M w0 (set5 w b a0 a1 a2 a3 a4) := by
  unfold set5
  exact ((((h.setCell (p := ⟨b, 0, none⟩) _ (fun hh => absurd hh (by simp; omega))).setCell (p := ⟨b, 1, none⟩) _ (fun hh => absurd hh (by simp; omega))).setCell (p := ⟨b, 2, none⟩) _ (fun hh => absurd hh (by simp; omega))).setCell
    (p := ⟨b, 3, none⟩) _ (fun hh => absurd hh (by simp; omega))).setCell (p := ⟨b, 4, none⟩) _ (fun hh => absurd hh (by simp; omega))
theorem set5_heap {w : World} {b k : Nat} (h : k ≠ b) (a0 a1 a2 a3 a4 : Value) : (set5 w b a0 a1 a2 a3 a4).heap[k]? = w.heap[k]? := by
  unfold set5
  rw [Below.heap_setCell _ _ _ _ h, Below.heap_setCell _ _ _ _ h, Below.heap_setCell _ _ _ _ h, Below.heap_setCell _ _ _ _ h, Below.heap_setCell _ _ _ _ h]
theorem load_tree {w : World} {b : Nat} {a0 a1 a2 : Str} {A K : Option Addr} {n m ca ck : Nat} (h : Blk w b 38 #[.string a0, .string a1, .string a2, .slice A n ca, .slice K m ck]) :
    (loadVar 38 ⟨b, 0, none⟩).run Try.prog w = .ok (.agg #[.string a0, .string a1, .string a2, .slice A n ca, .slice K m ck]) w := by
  have y0 : w.cell? ⟨b, 0, none⟩ = some (.string a0) := by rw [h.cell]; rfl
  have y1 : w.cell? ⟨b, 1, none⟩ = some (.string a1) := by rw [h.cell]; rfl
  have y2 : w.cell? ⟨b, 2, none⟩ = some (.string a2) := by rw [h.cell]; rfl
  have y3 : w.cell? ⟨b, 3, none⟩ = some (.slice A n ca) := by rw [h.cell]; rfl
  have y4 : w.cell? ⟨b, 4, none⟩ = some (.slice K m ck) := by rw [h.cell]; rfl
  clear h
  go_simp

set_option maxHeartbeats 4000000 in
set_option maxRecDepth 100000 in
theorem element_c (p n : Nat) (k : Int) (ih : NodesC p n k) : ElemC p n k := by
  intro d l bad w R hl hdn hl6 hP hp hm h
  replace ih := Lib.hid ih
  have hpw := Blk.lt hP
  have hb0 := Blk.new w 38 #[.string ⟨#[]⟩, .string ⟨#[]⟩, .string ⟨#[]⟩, .slice none 0 0, .slice none 0 0]
  have hP0 : PBlk (w.alloc (.cells #[.string ⟨#[]⟩, .string ⟨#[]⟩, .string ⟨#[]⟩, .slice none 0 0, .slice none 0 0] 38)) p (60 :: l) bad := Blk.alloc hP _
  have hst0 : Step (One p) w (w.alloc (.cells #[.string ⟨#[]⟩, .string ⟨#[]⟩, .string ⟨#[]⟩, .slice none 0 0, .slice none 0 0] 38)) := (Step.refl _ _).alloc _
  have hz0 : (w.alloc (.cells #[.string ⟨#[]⟩, .string ⟨#[]⟩, .string ⟨#[]⟩, .slice none 0 0, .slice none 0 0] 38)).heap.size = w.heap.size + 1 := by simp
  have c1 := hP0.c1
  have f1 := hP0.f0 1
  have hd6 : (d : Int) ≤ 1000000 := by omega
  replace h := Lib.hid h
  go_enter Try.func26, Try.ntmps26
  go_upto_region 1 with (fail)
  go_cut [4] (fun s4 wc => s4 = .pointer (some ⟨w.heap.size, 0, none⟩) ∧ Step (One p) w wc ∧ w.heap.size < wc.heap.size ∧ PBlk wc p (60 :: l) (bad || decide (200 ≤ d)) ∧ Blk wc w.heap.size 38 #[.string ⟨#[]⟩, .string ⟨#[]⟩, .string ⟨#[]⟩, .slice none 0 0, .slice none 0 0])
  case first =>
    have hst1 : ∀ b, Step (One p) w ((w.alloc (.cells #[.string ⟨#[]⟩, .string ⟨#[]⟩, .string ⟨#[]⟩, .slice none 0 0, .slice none 0 0] 38)).setCell ⟨p, 1, none⟩ (.bool b)) := fun b => hst0.setCell (p := ⟨p, 1, none⟩) _ (fun _ => rfl)
    have hP1 := fun b => hP0.set1 b
    have hb1 := fun b => hb0.far (p := ⟨p, 1, none⟩) (by simp; omega) (.bool b)
    generalize w.alloc (.cells #[.string ⟨#[]⟩, .string ⟨#[]⟩, .string ⟨#[]⟩, .slice none 0 0, .slice none 0 0] 38) = W at c1 f1 hst1 hP1 hb1 hz0 ⊢
    replace hst1 := Lib.hid hst1
    replace hP1 := Lib.hid hP1
    replace hb1 := Lib.hid hb1
    replace hz0 := Lib.hid hz0
    cases bad
    · by_cases h2 : 200 ≤ d
      · have h2a : decide (200 ≤ (d : Int)) = true := decide_eq_true (by omega)
        have h2b : decide (200 ≤ d) = true := decide_eq_true h2
        replace h2 := Lib.hid h2
        replace h2b := Lib.hid h2b
        go_wp2
        go_meet
        case rel => exact ⟨rfl, hst1.out _, by have := hz0.out; simp [World.setCell]; omega, by rw [h2b.out]; exact hP1.out _, hb1.out _⟩
      · have h2a : decide (200 ≤ (d : Int)) = false := decide_eq_false (by omega)
        have h2b : decide (200 ≤ d) = false := decide_eq_false h2
        replace h2 := Lib.hid h2
        replace h2b := Lib.hid h2b
        go_wp2
        go_meet
        case rel => exact ⟨rfl, hst1.out _, by have := hz0.out; simp [World.setCell]; omega, by rw [h2b.out]; exact hP1.out _, hb1.out _⟩
    · go_wp2
      go_meet
      case rel => exact ⟨rfl, hst1.out _, by have := hz0.out; simp [World.setCell]; omega, hP1.out _, hb1.out _⟩
  case rest =>
    obtain ⟨rfl, hst1, hz1, hP1, hb1⟩ := hcut
    have hm1 := hst1.cell hm (fun e => hp e.symm)
    clear hP0 hst0 hz0 c1 f1 hb0
    have hfin : ∀ (T : Tree) (le : Bs) (be : Bool), pElemW (pNodes n) d (60 :: l) bad = (T, le, be) → ∀ w' va vk, Step (One p) w w' → PBlk w' p le be → Sl w' (Old w.heap.size) va T.attrs → Sl w' (Old w.heap.size) vk T.kids →
        R (.returned (.agg #[.string T.tag, .string T.text, .string T.key, va, vk])) w' := by
      intro T le be hh
      have h1' := h.out
      rw [hh] at h1'
      exact h1'
    clear h
    replace hfin := Lib.hid hfin
    obtain ⟨b1, hb1e⟩ : ∃ b, (bad || decide (200 ≤ d)) = b := ⟨_, rfl⟩
    rw [hb1e] at hP1
    replace hb1e := Lib.hid hb1e
    have hBnp : ¬ One p w.heap.size := fun e => by simp only [One] at e; omega
    replace hBnp := Lib.hid hBnp
    go_wp2_with (first | (go_at_call 48; refine mark_c p (60 :: l) [60] b1 _ hP1 ?_; rw [pMark_lt]; intro w2 hs2 hP2))
    have hst2 := hst1.then_ hs2
    have hb2 := hb1.step hs2 hBnp.out
    have hz2 := hs2.size
    have hm2 := hs2.cell hm1 (fun e => hp e.symm)
    clear hP1 hst1 hb1 hs2 hm1
    replace hP2 : PBlk w2 p l b1 := hP2
    have hl2 : (pAhead [32, 62] l).1.length + (pAhead [32, 62] l).2.length = l.length := pAhead_le _ _
    have hah := fun R w => ahead_c p l [32, 62] b1 w (R := R)
    generalize hr2 : pAhead [32, 62] l = r2 at hl2 hah
    obtain ⟨tag, l2⟩ := r2
    simp only at hl2 hah
    replace hr2 := Lib.hid hr2
    replace hah := Lib.hid hah
    go_wp2_with (go_at_call 28; refine hah.out _ _ hP2 (by omega) (by decide) (by decide) ?_)
    intro w3 hs3 hP3
    have hst3 := hst2.then_ hs3
    have hb3 := hb2.step hs3 hBnp.out
    have hz3 := hs3.size
    have hm3 := hs3.cell hm2 (fun e => hp e.symm)
    clear hP2 hst2 hb2 hs3 hm2
    have hbt := Blk.new w3 38 #[.string (str tag), .string ⟨#[]⟩, .string ⟨#[]⟩, .slice none 0 0, .slice none 0 0]
    have hst4 : Step (One p) w (w3.alloc (.cells #[.string (str tag), .string ⟨#[]⟩, .string ⟨#[]⟩, .slice none 0 0, .slice none 0 0] 38)) := hst3.alloc _
    have hb4 := hb3.alloc (.cells #[.string (str tag), .string ⟨#[]⟩, .string ⟨#[]⟩, .slice none 0 0, .slice none 0 0] 38)
    have hP4 : PBlk (w3.alloc (.cells #[.string (str tag), .string ⟨#[]⟩, .string ⟨#[]⟩, .slice none 0 0, .slice none 0 0] 38)) p l2 b1 := Blk.alloc hP3 _
    have hne1 : p ≠ w3.heap.size := by have := Blk.lt hP3; omega
    have hne2 : w.heap.size ≠ w3.heap.size := by omega
    replace hne1 := Lib.hid hne1
    replace hne2 := Lib.hid hne2
    go_wp2_with (fail)
    go_loopw [22] (fun _ wr => ∃ (acc : List Attr) (l' : Bs) (b' : Bool) (f : Nat) (v : Value), l'.length ≤ f ∧ acc.length + l'.length ≤ l2.length ∧ pAttrs l2.length l2 b1 = (acc ++ (pAttrs f l' b').1, (pAttrs f l' b').2) ∧ PBlk wr p l' b' ∧
      Blk wr w3.heap.size 38 #[.string (str tag), .string ⟨#[]⟩, .string ⟨#[]⟩, v, .slice none 0 0] ∧ OwnR wr w.heap.size 74 v acc ∧ Blk wr w.heap.size 38 #[.string ⟨#[]⟩, .string ⟨#[]⟩, .string ⟨#[]⟩, .slice none 0 0, .slice none 0 0] ∧
      Step (One p) w wr) (fun _ wr => pLen wr p)
    case atStart => exact ⟨[], l2, b1, l2.length, _, Nat.le_refl _, by simp, by simp, hP4, hbt, OwnR.nil _ _ _, hb4, hst4⟩
    case round =>
      obtain ⟨acc, l', b', f, v, hf, hacc, heq, hPr, hbr, hown, hb0r, hstr⟩ := hrel
      replace heq := Lib.hid heq
      have x0 := hPr.c0
      have x1 := hPr.c1
      have y3 : wr.cell? ⟨w3.heap.size, 3, none⟩ = some v := by rw [hbr.cell]; rfl
      have hmr := hstr.cell hm (fun e => hp e.symm)
      have hzr := hstr.size
      by_cases hgo : b' = false ∧ Lib.hasPrefix l' [32] = true
      · obtain ⟨rfl, hsp⟩ := hgo
        have hal := pAttr_le l' false hsp
        generalize hra : pAttr l' false = ra at hal
        have hat := fun R w => attr_c p l' false k w (R := R)
        rw [hra] at hat
        obtain ⟨at1, l1, bq⟩ := ra
        simp only at hal hat
        replace hat := Lib.hid hat
        obtain ⟨f', rfl⟩ : ∃ f', f = f' + 1 := ⟨f - 1, by omega⟩
        have hnext : pAttrs l2.length l2 b1 = ((acc ++ [at1]) ++ (pAttrs f' l1 bq).1, (pAttrs f' l1 bq).2) := by
          rw [heq.out, pAttrs]
          simp only [hsp, Bool.not_true, Bool.or_false, Bool.false_eq_true, if_false, hra]
          simp
        replace hnext := Lib.hid hnext
        replace hra := Lib.hid hra
        replace hsp := Lib.hid hsp
        have hneB := Lib.hid (hown.ne hb0r (by decide))
        have hlo := Lib.hid hown.lt
        have hwp : ¬ One p w3.heap.size := fun e => by simp only [One] at e; exact hne1.out e.symm
        have hbl : ∀ w', Step (One p) wr w' → w'.cell? ⟨w3.heap.size, 3, none⟩ = some v := fun w' hs => hs.cell y3 hwp
        replace hbl := Lib.hid hbl
        replace hwp := Lib.hid hwp
        go_wp2_with (go_at_call 25; refine prefix_c (str l') ⟨#[32]⟩ true hsp.out _ ?_)
        have hneq := Lib.hid (hown.ne hbr (by decide))
        obtain ⟨A, cap, rfl, hcap, hmax⟩ := hown.form
        clear hmax
        go_region_law (first
          | (go_simp; go_at_call 49; refine hat.out _ _ (show PBlk wr.drew p l' false from hPr) (by omega) hp (show wr.drew.cell? ⟨0, 0, none⟩ = _ from hmr) ?_; intro w5 hs5 hP5; have y5 := hbl.out w5 (((Step.refl _ wr).drew).then_ hs5); have y5a := fun o => ((Step.refl Nil0 w5).alloc o).cell y5 (fun h => h))
          | (refine step_append_r w5 rfl (.tmp 35) (.tmp 38) 36 rfl w.heap.size 74 _ 40 Try.underlying36 info_attr rfl (by decide) (.slice A acc.length cap) acc rfl (hown.step (((Step.refl _ wr).drew).then_ hs5) (fun b _ hb => by simp only [One] at hb; omega)) at1 _ rfl rfl (by omega) (by have := hs5.size; have : wr.drew.heap.size = wr.heap.size := rfl; omega) ?_; intro v' w6 hown6 hs6; obtain ⟨A6, c6, rfl, hc6, hm6⟩ := hown6.form; have hb6 := (hbr.step (((Step.refl _ wr).drew).then_ hs5) hwp.out).step hs6 hneq.out; have y6 := hb6.cell 3; have f6 := hb6.frozen 3))
        all_goals
          have hs16 : Step (One p) w w6 := (hstr.then_ (((Step.refl _ wr).drew).then_ hs5)).trans hs6 (fun b hlt hb => by have := (hlo.out b hb).1; omega)
          have hP6 : PBlk w6 p l1 bq := hP5.step hs6 (fun hb => by have := (hlo.out p hb).1; omega)
          have hB6 := (hb0r.step (((Step.refl _ wr).drew).then_ hs5) hBnp.out).step hs6 hneB.out
          have hne6 := hown6.ne hb6 (by decide)
          have hP7 : PBlk (w6.setCell ⟨w3.heap.size, 3, none⟩ (.slice A6 (acc ++ [at1]).length c6)) p l1 bq := Blk.far hP6 (p := ⟨w3.heap.size, 3, none⟩) hne1.out _
          have hb7 := hb6.set_ 3 (.slice A6 (acc ++ [at1]).length c6)
          have hB7 := hB6.far (p := ⟨w3.heap.size, 3, none⟩) hne2.out (.slice A6 (acc ++ [at1]).length c6)
          have hst7 : Step (One p) w (w6.setCell ⟨w3.heap.size, 3, none⟩ (.slice A6 (acc ++ [at1]).length c6)) := hs16.setCell (p := ⟨w3.heap.size, 3, none⟩) _ (fun hb => absurd hb (by simp; omega))
          have hown7 : OwnR (w6.setCell ⟨w3.heap.size, 3, none⟩ (.slice A6 (acc ++ [at1]).length c6)) w.heap.size 74 (.slice A6 (acc ++ [at1]).length c6) (acc ++ [at1]) :=
            hown6.attrs (fun k hk => Below.heap_setCell _ _ _ _ (fun e => hne6 (by rw [hk, e])))
          have hlen7 : (acc ++ [at1]).length = acc.length + 1 := by simp
          rw [hlen7] at hP7 hb7 hB7 hst7 hown7
          generalize w6.setCell ⟨w3.heap.size, 3, none⟩ (.slice A6 (acc.length + 1) c6) = w7 at hP7 hb7 hB7 hst7 hown7 ⊢
          replace hlen7 := Lib.hid hlen7
          have hpl := PBlk.len hPr
          have hpl7 := PBlk.len hP7
          replace hpl := Lib.hid hpl
          replace hpl7 := Lib.hid hpl7
          clear hP6 hB6 hb6 y6 f6 hs6 hP5 hs5 y5 y5a hs16
          go_wp2
          go_roundw
          case rel => exact ⟨acc ++ [at1], l1, bq, f', _, by omega, by rw [hlen7.out]; omega, hnext.out, hP7, by simpa using hb7, hown7, hB7, hst7⟩
          case measure => rw [hpl.out, hpl7.out]; exact hal
      · have hstop : pAttrs f l' b' = ([], l', b') := by
          have hc : (b' || !Lib.hasPrefix l' [32]) = true := by
            cases b'
            · cases h2 : Lib.hasPrefix l' [32]
              · rfl
              · exact absurd ⟨rfl, h2⟩ hgo
            · rfl
          cases f with
          | zero => rfl
          | succ f => rw [pAttrs, if_pos hc]
        have heq2 := heq.out
        rw [hstop] at heq2
        simp only [List.append_nil] at heq2
        replace heq2 := Lib.hid heq2
        replace hstop := Lib.hid hstop
        go_upto_region 4 with (fail)
        go_cut [33] from 22 to 40 (fun s wc => s = .bool false ∧ wc = wr)
        case first =>
          cases b'
          · cases hsp : Lib.hasPrefix l' [32]
            · replace hsp := Lib.hid hsp
              go_wp2_with (go_at_call 25; refine prefix_c (str l') ⟨#[32]⟩ false hsp.out _ ?_)
              go_meet
              case rel => exact ⟨rfl, rfl⟩
            · exact absurd ⟨rfl, hsp⟩ hgo
          · go_wp2
            go_meet
            case rel => exact ⟨rfl, rfl⟩
        case rest =>
          obtain ⟨rfl, hwc⟩ := hcut
          subst hwc
          have hl3 : l'.length ≤ l2.length := by omega
          clear hstop hgo heq x0 x1 y3 hzr hmr
          have hne3 := hown.ne hbr (by decide)
          have hneB := hown.ne hb0r (by decide)
          have hlo := hown.lt
          have hwp : ¬ One p w3.heap.size := fun e => by simp only [One] at e; exact hne1.out e.symm
          replace hwp := Lib.hid hwp
          replace hlo := Lib.hid hlo
          replace hneB := Lib.hid hneB
          replace hne3 := Lib.hid hne3
          have hl4 : (pMark [62] l' b').1.length ≤ l'.length := trim_le _ _
          have hmk := fun R w => mark_c p l' [62] b' w (R := R)
          generalize hr4 : pMark [62] l' b' = r4 at hl4 hmk
          obtain ⟨l4, b4⟩ := r4
          simp only at hl4 hmk
          replace hr4 := Lib.hid hr4
          replace hmk := Lib.hid hmk
          have hPz := hPr
          clear hPr
          go_wp2_with (go_at_call 48; refine hmk.out _ _ hPz ?_)
          intro w5 hs5 hP5
          have hst5 := hstr.then_ hs5
          have hb5 := hbr.step hs5 hwp.out
          have hB5 := hb0r.step hs5 hBnp.out
          have hown5 := hown.step hs5 (fun b _ hb => by simp only [One] at hb; omega)
          have hm5 := hst5.cell hm (fun e => hp e.symm)
          have hz5 := hst5.size
          have hz6 : w3.heap.size < w5.heap.size := Blk.lt hb5
          clear hPz hstr hbr hb0r hown hs5
          have y0 : w5.cell? ⟨w3.heap.size, 0, none⟩ = some (.string (str tag)) := by rw [hb5.cell]; rfl
          cases ev : isVoid (str tag)
          · have hih := ih.out (d + 1) l4 b4 w5
            have hcast : ((d + 1 : Nat) : Int) = (d : Int) + 1 := by omega
            rw [hcast] at hih
            have hl5 : (pNodes n (d + 1) l4 b4).2.1.length ≤ l4.length := pNodes_le _ _ _ _
            generalize hr5 : pNodes n (d + 1) l4 b4 = r5 at hih hl5
            obtain ⟨kids, l5, b5⟩ := r5
            simp only at hih hl5
            have hmk2 := fun R w => mark_c p l5 ([60, 47] ++ tag ++ [62]) b5 w (R := R)
            generalize hr6 : pMark ([60, 47] ++ tag ++ [62]) l5 b5 = r6 at hmk2
            obtain ⟨l6, b6⟩ := r6
            simp only at hmk2
            have hstr6 : str ([60, 47] ++ tag ++ [62]) = ⟨#[60, 47]⟩ ++ str tag ++ ⟨#[62]⟩ := by
              rw [← str_of (⟨#[60, 47]⟩ ++ str tag ++ ⟨#[62]⟩)]
              simp only [app_data]; rfl
            rw [hstr6] at hmk2
            have hel : pElemW (pNodes n) d (60 :: l) bad = (⟨str tag, str [], str [], acc, kids⟩, l6, b6) := by
              unfold pElemW
              rw [hb1e.out, pMark_lt]
              simp only [hr2.out]
              rw [heq2.out]
              simp only [hr4.out, ev, Bool.false_eq_true, if_false, hr5, hr6]
            clear hr5 hr6 hstr6 hcast
            replace hel := Lib.hid hel
            replace ev := Lib.hid ev
            replace hih := Lib.hid hih
            replace hmk2 := Lib.hid hmk2
            have hts : (str tag).size = tag.length := rfl
            have hts2 : (str tag).size ≤ 1000000 := by omega
            clear hts
            obtain ⟨A, cap, rfl, hcap, hmax⟩ := hown5.form
            clear hmax
            go_wp2_with (first | (go_at_call 33; with_reducible (refine void_c _ _ ?_); rw [ev.out]) | (go_at_call 12; refine hih.out _ (by omega) (by omega) (by omega) hP5 hp hm5 ?_))
            intro w6 vk hs6 hP6 hsl6
            have hb6 := hb5.step hs6 hwp.out
            have hB6 := hB5.step hs6 hBnp.out
            have hown6 := hown5.step hs6 (fun b _ hb => by simp only [One] at hb; omega)
            have hst6 := hst5.then_ hs6
            have hz66 := hs6.size
            obtain ⟨K, ck, rfl, hck, hmk3⟩ := hsl6.form
            clear hmk3
            have g4 := hb6.frozen 4
            have q4 : w6.cell? ⟨w3.heap.size, 4, none⟩ = some (.slice none 0 0) := by rw [hb6.cell]; rfl
            have hP7 : PBlk (w6.setCell ⟨w3.heap.size, 4, none⟩ (.slice K kids.length ck)) p l5 b5 := Blk.far hP6 (p := ⟨w3.heap.size, 4, none⟩) hne1.out _
            have hb7 : Blk (w6.setCell ⟨w3.heap.size, 4, none⟩ (.slice K kids.length ck)) w3.heap.size 38 #[.string (str tag), .string ⟨#[]⟩, .string ⟨#[]⟩, .slice A acc.length cap, .slice K kids.length ck] := by
              have := hb6.set_ 4 (.slice K kids.length ck)
              simpa using this
            have hB7 := hB6.far (p := ⟨w3.heap.size, 4, none⟩) hne2.out (.slice K kids.length ck)
            have hst7 : Step (One p) w (w6.setCell ⟨w3.heap.size, 4, none⟩ (.slice K kids.length ck)) := hst6.setCell (p := ⟨w3.heap.size, 4, none⟩) _ (fun hb => absurd hb (by simp; omega))
            have hown7 : OwnR (w6.setCell ⟨w3.heap.size, 4, none⟩ (.slice K kids.length ck)) w.heap.size 74 (.slice A acc.length cap) acc :=
              hown6.attrs (fun k hk => Below.heap_setCell _ _ _ _ (fun e => hne3.out (by rw [hk, e])))
            have hk7 : ∀ b, b < w6.heap.size → ¬ Old w5.heap.size b → (w6.setCell ⟨w3.heap.size, 4, none⟩ (.slice K kids.length ck)).heap[b]? = w6.heap[b]? :=
              fun b hb hn => Below.heap_setCell _ _ _ _ (fun e => hn (by simp only [Old]; simp at e; omega))
            have hz7 : (w6.setCell ⟨w3.heap.size, 4, none⟩ (.slice K kids.length ck)).heap.size = w6.heap.size := by simp [World.setCell]
            have y7 := hb7.cell 0
            simp only [List.getElem?_toArray] at y7
            go_wp2_with (go_at_call 48; refine hmk2.out _ _ hP7 ?_)
            intro w8 hs8 hP8
            have hb8 := hb7.step hs8 hwp.out
            have hB8 := hB7.step hs8 hBnp.out
            have hown8 := hown7.step hs8 (fun b _ hb => by simp only [One] at hb; omega)
            have hst8 := hst7.then_ hs8
            have hk8 : ∀ b, b < w6.heap.size → ¬ Old w5.heap.size b → w8.heap[b]? = w6.heap[b]? := fun b hb hn =>
              (hs8.block b (by omega) (fun hm => hn (by simp only [One] at hm; simp only [Old]; have := Blk.lt hP5; omega))).trans (hk7 b hb hn)
            replace hk8 := Lib.hid hk8
            clear hk7 hP7 hb7 hB7 hst7 hown7 hs8 y7 q4 g4 hb6 hB6 hown6 hst6 hP6
            have y0 : w8.cell? ⟨w3.heap.size, 0, none⟩ = some (.string (str tag)) := by rw [hb8.cell]; rfl
            have y1 : w8.cell? ⟨w3.heap.size, 1, none⟩ = some (.string ⟨#[]⟩) := by rw [hb8.cell]; rfl
            have y2 : w8.cell? ⟨w3.heap.size, 2, none⟩ = some (.string ⟨#[]⟩) := by rw [hb8.cell]; rfl
            have y3 : w8.cell? ⟨w3.heap.size, 3, none⟩ = some (.slice A acc.length cap) := by rw [hb8.cell]; rfl
            have y4 : w8.cell? ⟨w3.heap.size, 4, none⟩ = some (.slice K kids.length ck) := by rw [hb8.cell]; rfl
            have g0 := hB8.frozen 0
            have g1 := hB8.frozen 1
            have g2 := hB8.frozen 2
            have g3 := hB8.frozen 3
            have g4 := hB8.frozen 4
            have q0 : w8.cell? ⟨w.heap.size, 0, none⟩ = some (.string ⟨#[]⟩) := by rw [hB8.cell]; rfl
            have q1 : w8.cell? ⟨w.heap.size, 1, none⟩ = some (.string ⟨#[]⟩) := by rw [hB8.cell]; rfl
            have q2 : w8.cell? ⟨w.heap.size, 2, none⟩ = some (.string ⟨#[]⟩) := by rw [hB8.cell]; rfl
            have q3 : w8.cell? ⟨w.heap.size, 3, none⟩ = some (.slice none 0 0) := by rw [hB8.cell]; rfl
            have q4 : w8.cell? ⟨w.heap.size, 4, none⟩ = some (.slice none 0 0) := by rw [hB8.cell]; rfl
            go_wp2
            have hB9 := set5_blk hB8 (.string (str tag)) (.string ⟨#[]⟩) (.string ⟨#[]⟩) (.slice A acc.length cap) (.slice K kids.length ck)
            refine bodyPost_cell 4 38 ⟨w.heap.size, 0, none⟩ rfl rfl rfl (load_tree hB9) ?_
            refine hfin.out _ _ _ hel.out _ (.slice A acc.length cap) (.slice K kids.length ck) (set5_step hst8 (Nat.le_refl _) _ _ _ _ _) ?_ ?_ ?_
            · exact (set5_heap (by omega) _ _ _ _ _).trans hP8
            · exact (hown8.attrs (fun k hk => set5_heap (fun e => hneB.out (by rw [hk, e])) _ _ _ _ _)).sl
            · exact hsl6.step0 (fun b hb hn => (set5_heap (fun e => hn (by simp only [Old]; omega)) _ _ _ _ _).trans (hk8.out b hb hn)) (fun b _ hb => by simp only [Old] at hb ⊢; omega)
          · have hel : pElemW (pNodes n) d (60 :: l) bad = (⟨str tag, str [], str [], acc, []⟩, l4, b4) := by
              unfold pElemW
              rw [hb1e.out, pMark_lt]
              simp only [hr2.out]
              rw [heq2.out]
              simp only [hr4.out, ev, if_true]
            replace hel := Lib.hid hel
            replace ev := Lib.hid ev
            have y1 : w5.cell? ⟨w3.heap.size, 1, none⟩ = some (.string ⟨#[]⟩) := by rw [hb5.cell]; rfl
            have y2 : w5.cell? ⟨w3.heap.size, 2, none⟩ = some (.string ⟨#[]⟩) := by rw [hb5.cell]; rfl
            have y3 : w5.cell? ⟨w3.heap.size, 3, none⟩ = some v := by rw [hb5.cell]; rfl
            have y4 : w5.cell? ⟨w3.heap.size, 4, none⟩ = some (.slice none 0 0) := by rw [hb5.cell]; rfl
            have g0 := hB5.frozen 0
            have g1 := hB5.frozen 1
            have g2 := hB5.frozen 2
            have g3 := hB5.frozen 3
            have g4 := hB5.frozen 4
            have q0 : w5.cell? ⟨w.heap.size, 0, none⟩ = some (.string ⟨#[]⟩) := by rw [hB5.cell]; rfl
            have q1 : w5.cell? ⟨w.heap.size, 1, none⟩ = some (.string ⟨#[]⟩) := by rw [hB5.cell]; rfl
            have q2 : w5.cell? ⟨w.heap.size, 2, none⟩ = some (.string ⟨#[]⟩) := by rw [hB5.cell]; rfl
            have q3 : w5.cell? ⟨w.heap.size, 3, none⟩ = some (.slice none 0 0) := by rw [hB5.cell]; rfl
            have q4 : w5.cell? ⟨w.heap.size, 4, none⟩ = some (.slice none 0 0) := by rw [hB5.cell]; rfl
            obtain ⟨A, cap, rfl, hcap, hmax⟩ := hown5.form
            clear hmax
            go_wp2_with (go_at_call 33; with_reducible (refine void_c _ _ ?_); rw [ev.out])
            have hB6 := set5_blk hB5 (.string (str tag)) (.string ⟨#[]⟩) (.string ⟨#[]⟩) (.slice A acc.length cap) (.slice none 0 0)
            refine bodyPost_cell 4 38 ⟨w.heap.size, 0, none⟩ rfl rfl rfl (load_tree hB6) ?_
            refine hfin.out _ _ _ hel.out _ (.slice A acc.length cap) (.slice none 0 0) (set5_step hst5 (Nat.le_refl _) _ _ _ _ _) ?_ ?_ (Sl.nil _ _)
            · exact (set5_heap (by omega) _ _ _ _ _).trans hP5
            · exact (hown5.attrs (fun k hk => set5_heap (fun e => hneB.out (by rw [hk, e])) _ _ _ _ _)).sl
end Go.Proofs.Ytfbpjadigmkkkaa
