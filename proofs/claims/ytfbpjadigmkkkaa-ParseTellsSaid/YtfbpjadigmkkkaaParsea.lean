/- The parser's small methods: mark, upto, ahead, value, attr. -/
import Derived.Test.YtfbpjadigmkkkaaAny
import Derived.Test.YtfbpjadigmkkkaaParseP
namespace Go.Proofs.Ytfbpjadigmkkkaa
open Go.RowKit

/-- The parser in block p. -/
def PBlk (w : World) (p : Nat) (l : Bs) (bad : Bool) : Prop := Blk w p 42 #[.string (str l), .bool bad]
theorem PBlk.c0 {w : World} {p : Nat} {l : Bs} {bad : Bool} (h : PBlk w p l bad) : w.cell? ⟨p, 0, none⟩ = some (.string (str l)) := by rw [Blk.cell h]; rfl
theorem PBlk.c1 {w : World} {p : Nat} {l : Bs} {bad : Bool} (h : PBlk w p l bad) : w.cell? ⟨p, 1, none⟩ = some (.bool bad) := by rw [Blk.cell h]; rfl
theorem PBlk.f0 {w : World} {p : Nat} {l : Bs} {bad : Bool} (h : PBlk w p l bad) (i : Nat) : w.frozen? ⟨p, i, none⟩ = false := Blk.frozen h i
theorem PBlk.step {w w' : World} {M : Nat → Prop} {p : Nat} {l : Bs} {bad : Bool} (h : PBlk w p l bad) (k : Step M w w') (hn : ¬ M p) : PBlk w' p l bad := Blk.step h k hn
theorem PBlk.set0 {w : World} {p : Nat} {l : Bs} {bad : Bool} (h : PBlk w p l bad) (l' : Bs) : PBlk (w.setCell ⟨p, 0, none⟩ (.string (str l'))) p l' bad := by
  have := Blk.set_ h 0 (.string (str l'))
  simpa [PBlk] using this
theorem PBlk.set1 {w : World} {p : Nat} {l : Bs} {bad : Bool} (h : PBlk w p l bad) (b : Bool) : PBlk (w.setCell ⟨p, 1, none⟩ (.bool b)) p l b := by
  have := Blk.set_ h 1 (.bool b)
  simpa [PBlk] using this

theorem cutp_c (l m : Bs) (w : World) {R : Ending → World → Prop} (h : R (.returned (.tuple #[.string (str (Lib.trimPrefix l m)), .bool (Lib.hasPrefix l m)])) w) :
    Calls Try.prog 61 #[.string (str l), .string (str m)] w R :=
  (Try.strings_CutPrefix (str l) (str m) w).mono fun e w' ⟨he, hw⟩ => by subst he hw; exact h
theorem cut_c (l m : Bs) (n : Int) (w : World) (hs : l.length < 4294967281) (hm : w.cell? ⟨0, 0, none⟩ = some (.int .i64 n)) {R : Ending → World → Prop}
    (h : ∀ w', Step Nil0 w w' → R (.returned (.tuple #[.string (str (Lib.cut l m).1), .string (str (Lib.cut l m).2.1), .bool (Lib.cut l m).2.2])) w') :
    Calls Try.prog 69 #[.string (str l), .string (str m)] w R :=
  (Try.strings_Cut (str l) (str m) n w hs hm).mono fun e w' ⟨he, k, hw⟩ => by subst he hw; exact h _ ((Step.refl _ _).drewN _)

set_option maxHeartbeats 1000000 in
theorem mark_c (p : Nat) (l m : Bs) (bad : Bool) (w : World) (hP : PBlk w p l bad) {R : Ending → World → Prop}
    (h : ∀ w', Step (One p) w w' → PBlk w' p (pMark m l bad).1 (pMark m l bad).2 → R (.returned (.tuple #[])) w') :
    Calls Try.prog 48 #[.pointer (some ⟨p, 0, none⟩), .string (str m)] w R := by
  have c0 := hP.c0
  have f0 := hP.f0 0
  have h1 := hP.set0 (Lib.trimPrefix l m)
  have d1 := h1.c1
  have g1 := h1.f0 1
  have hst : Step (One p) w (w.setCell ⟨p, 0, none⟩ (.string (str (Lib.trimPrefix l m)))) := (Step.refl _ _).setCell (p := ⟨p, 0, none⟩) _ (fun _ => rfl)
  have hno : ∀ b, (bad || !Lib.hasPrefix l m) = b → R (.returned (.tuple #[])) ((w.setCell ⟨p, 0, none⟩ (.string (str (Lib.trimPrefix l m)))).setCell ⟨p, 1, none⟩ (.bool b)) := by
    intro b hb
    refine h _ (hst.setCell (p := ⟨p, 1, none⟩) _ (fun _ => rfl)) ?_
    show PBlk _ p (Lib.trimPrefix l m) (bad || !Lib.hasPrefix l m)
    rw [hb]
    exact h1.set1 b
  replace hno := Lib.hid hno
  clear h h1 hst hP
  cases bad
  · cases e1 : Lib.hasPrefix l m
    · have hn := hno.out true (by rw [e1]; rfl)
      replace hn := Lib.hid hn
      replace e1 := Lib.hid e1
      go_enter Try.func48, Try.ntmps48
      go_wp2_with (go_at_call 61; with_reducible (refine cutp_c _ _ _ ?_); rw [e1.out])
      go_end0
      exact hn.out
    · have hn := hno.out false (by rw [e1]; rfl)
      replace hn := Lib.hid hn
      replace e1 := Lib.hid e1
      go_enter Try.func48, Try.ntmps48
      go_wp2_with (go_at_call 61; with_reducible (refine cutp_c _ _ _ ?_); rw [e1.out])
      go_end0
      exact hn.out
  · have hn := hno.out true rfl
    replace hn := Lib.hid hn
    go_enter Try.func48, Try.ntmps48
    go_wp2_with (go_at_call 61; with_reducible (refine cutp_c _ _ _ ?_))
    go_end0
    exact hn.out

set_option maxHeartbeats 1000000 in
theorem upto_c (p : Nat) (l m : Bs) (bad : Bool) (n : Int) (w : World) (hP : PBlk w p l bad) (hs : l.length < 4294967281) (hp : p ≠ 0) (hm : w.cell? ⟨0, 0, none⟩ = some (.int .i64 n)) {R : Ending → World → Prop}
    (h : ∀ w', Step (One p) w w' → PBlk w' p (pUpto m l bad).2.1 (pUpto m l bad).2.2 → R (.returned (.string (str (pUpto m l bad).1))) w') :
    Calls Try.prog 62 #[.pointer (some ⟨p, 0, none⟩), .string (str m)] w R := by
  have c0 := hP.c0
  have hno : ∀ w1, Step Nil0 w w1 → ∀ b, (bad || !(Lib.cut l m).2.2) = b → R (.returned (.string (str (Lib.cut l m).1))) ((w1.setCell ⟨p, 0, none⟩ (.string (str (Lib.cut l m).2.1))).setCell ⟨p, 1, none⟩ (.bool b)) := by
    intro w1 hs1 b hb
    have h1 := (hP.step hs1 (by simp [Nil0])).set0 (Lib.cut l m).2.1
    refine h _ (((hs1.mono (M' := One p) (fun _ _ h => h.elim)).setCell (p := ⟨p, 0, none⟩) _ (fun _ => rfl)).setCell (p := ⟨p, 1, none⟩) _ (fun _ => rfl)) ?_
    show PBlk _ p (Lib.cut l m).2.1 (bad || !(Lib.cut l m).2.2)
    rw [hb]
    exact h1.set1 b
  have hf : ∀ w1, Step Nil0 w w1 → w1.frozen? ⟨p, 0, none⟩ = false ∧ w1.cell? ⟨p, 0, none⟩ = some (.string (str l)) ∧ (w1.setCell ⟨p, 0, none⟩ (.string (str (Lib.cut l m).2.1))).cell? ⟨p, 1, none⟩ = some (.bool bad) ∧
      (w1.setCell ⟨p, 0, none⟩ (.string (str (Lib.cut l m).2.1))).frozen? ⟨p, 1, none⟩ = false := by
    intro w1 hs1
    have h0 := hP.step hs1 (by simp [Nil0])
    have h1 := h0.set0 (Lib.cut l m).2.1
    exact ⟨h0.f0 0, h0.c0, h1.c1, h1.f0 1⟩
  replace hno := Lib.hid hno
  replace hf := Lib.hid hf
  clear h hP
  cases bad
  · cases e1 : (Lib.cut l m).2.2
    · have hn := fun w1 hs1 => hno.out w1 hs1 true (by rw [e1]; rfl)
      replace hn := Lib.hid hn
      replace e1 := Lib.hid e1
      go_enter Try.func62, Try.ntmps62
      go_wp2_with (go_at_call 69; with_reducible (refine cut_c _ _ _ _ hs hm ?_); rw [e1.out])
      intro w1 hs1
      obtain ⟨x0, x1, x2, x3⟩ := hf.out w1 hs1
      go_wp2
      exact hn.out w1 hs1
    · have hn := fun w1 hs1 => hno.out w1 hs1 false (by rw [e1]; rfl)
      replace hn := Lib.hid hn
      replace e1 := Lib.hid e1
      go_enter Try.func62, Try.ntmps62
      go_wp2_with (go_at_call 69; with_reducible (refine cut_c _ _ _ _ hs hm ?_); rw [e1.out])
      intro w1 hs1
      obtain ⟨x0, x1, x2, x3⟩ := hf.out w1 hs1
      go_wp2
      exact hn.out w1 hs1
  · have hn := fun w1 hs1 => hno.out w1 hs1 true rfl
    replace hn := Lib.hid hn
    go_enter Try.func62, Try.ntmps62
    go_wp2_with (go_at_call 69; with_reducible (refine cut_c _ _ _ _ hs hm ?_))
    intro w1 hs1
    obtain ⟨x0, x1, x2, x3⟩ := hf.out w1 hs1
    go_wp2
    exact hn.out w1 hs1

theorem str_take (l : Bs) (n : Nat) : (str l).extract 0 n = str (l.take n) := by
  rw [Lib.extract_eq, Nat.sub_zero, List.drop_zero]; rfl
theorem str_drop (l : Bs) (n : Nat) : (str l).extract n (str l).size = str (l.drop n) := by
  rw [← str_of ((str l).extract n (str l).size), ext_data]; rfl

set_option maxHeartbeats 1000000 in
theorem ahead_c (p : Nat) (l signs : Bs) (bad : Bool) (w : World) (hP : PBlk w p l bad) (hs : l.length ≤ 20000000000000) (hg : signs.length ≤ 1000) (hsg : ∀ c ∈ signs, c.toNat < 128) {R : Ending → World → Prop}
    (h : ∀ w', Step (One p) w w' → PBlk w' p (pAhead signs l).2 bad → R (.returned (.string (str (pAhead signs l).1))) w') :
    Calls Try.prog 28 #[.pointer (some ⟨p, 0, none⟩), .string (str signs)] w R := by
  have c0 := hP.c0
  have hno : ∀ w1, Step Nil0 w w1 → R (.returned (.string (str (l.take (untilL signs l))))) (w1.setCell ⟨p, 0, none⟩ (.string (str (l.drop (untilL signs l))))) := by
    intro w1 hs1
    have h1 := (hP.step hs1 (by simp [Nil0])).set0 (l.drop (untilL signs l))
    exact h _ ((hs1.mono (M' := One p) (fun _ _ h => h.elim)).setCell (p := ⟨p, 0, none⟩) _ (fun _ => rfl)) h1
  have hf : ∀ w1, Step Nil0 w w1 → w1.frozen? ⟨p, 0, none⟩ = false ∧ w1.cell? ⟨p, 0, none⟩ = some (.string (str l)) := by
    intro w1 hs1
    have h0 := hP.step hs1 (by simp [Nil0])
    exact ⟨h0.f0 0, h0.c0⟩
  have hle := untilL_le signs l
  have hsz : (str l).size = l.length := rfl
  have hsg' : ∀ j (hj : j < (str signs).size), (str signs)[j].toNat < 128 := fun j hj => hsg _ (List.getElem_mem hj)
  have hany := fun w R => anyAt_c (str l) (str signs) hs hg hsg' w (R := R)
  rw [str_data, str_data, hsz] at hany
  have ht := str_take l (untilL signs l)
  have hd := str_drop l (untilL signs l)
  generalize hn : untilL signs l = n at hle hany ht hd hno
  clear hn hsg hsg' h hP hsz
  replace hno := Lib.hid hno
  replace hf := Lib.hid hf
  replace hany := Lib.hid hany
  replace ht := Lib.hid ht
  replace hd := Lib.hid hd
  by_cases e : n = l.length
  · have hany2 := fun w R => hany.out w R
    simp only [e, if_true] at hany2
    subst e
    replace hany2 := Lib.hid hany2
    go_enter Try.func28, Try.ntmps28
    go_wp2_with (go_at_call 51; with_reducible (refine hany2.out _ _ ?_))
    intro w1 hs1
    obtain ⟨x0, x1⟩ := hf.out w1 hs1
    go_wp2
    have hr := hno.out w1 hs1
    rw [List.take_length, List.drop_length] at hr
    exact hr
  · have hany2 := fun w R => hany.out w R
    simp only [e, if_false] at hany2
    replace hany2 := Lib.hid hany2
    have hlt : n < l.length := by omega
    clear e
    go_enter Try.func28, Try.ntmps28
    go_wp2_with (go_at_call 51; with_reducible (refine hany2.out _ _ ?_))
    intro w1 hs1
    obtain ⟨x0, x1⟩ := hf.out w1 hs1
    go_wp2
    have hr := hno.out w1 hs1
    rw [← ht.out, ← hd.out] at hr
    exact hr

set_option maxHeartbeats 1000000 in
theorem value_c (p : Nat) (l t : Bs) (bad : Bool) (w : World) (hP : PBlk w p l bad) (ht : t.length ≤ 20000000000000) {R : Ending → World → Prop}
    (h : ∀ w', Step (One p) w w' → PBlk w' p l (pValue t bad).2 → R (.returned (.string (str (pValue t bad).1))) w') :
    Calls Try.prog 27 #[.pointer (some ⟨p, 0, none⟩), .string (str t)] w R := by
  have hno : ∀ w1, Step Nil0 w w1 → ∀ b, (bad || (unescL t).isNone) = b → R (.returned (.string (str ((unescL t).getD [])))) (w1.setCell ⟨p, 1, none⟩ (.bool b)) := by
    intro w1 hs1 b hb
    refine h _ ((hs1.mono (M' := One p) (fun _ _ h => h.elim)).setCell (p := ⟨p, 1, none⟩) _ (fun _ => rfl)) ?_
    show PBlk _ p l (bad || (unescL t).isNone)
    rw [hb]
    exact (hP.step hs1 (by simp [Nil0])).set1 b
  have hf : ∀ w1, Step Nil0 w w1 → w1.frozen? ⟨p, 1, none⟩ = false ∧ w1.cell? ⟨p, 1, none⟩ = some (.bool bad) := by
    intro w1 hs1
    have h0 := hP.step hs1 (by simp [Nil0])
    exact ⟨h0.f0 1, h0.c1⟩
  have hget := fun w R => escGet_c (str t) ht w (R := R)
  rw [str_data] at hget
  replace hno := Lib.hid hno
  replace hf := Lib.hid hf
  clear h hP
  cases e : unescL t with
  | none =>
    rw [e] at hget
    have hn := fun w1 hs1 => hno.out w1 hs1 true (by rw [e]; cases bad <;> rfl)
    rw [e] at hn
    replace hn := Lib.hid hn
    replace hget := Lib.hid hget
    clear e hno
    cases bad
    · go_enter Try.func27, Try.ntmps27
      go_wp2_with (go_at_call 50; with_reducible (refine hget.out _ _ ?_); unfold unescV)
      intro w1 hs1
      obtain ⟨x0, x1⟩ := hf.out w1 hs1
      go_wp2
      exact hn.out w1 hs1
    · go_enter Try.func27, Try.ntmps27
      go_wp2_with (go_at_call 50; with_reducible (refine hget.out _ _ ?_); unfold unescV)
      intro w1 hs1
      obtain ⟨x0, x1⟩ := hf.out w1 hs1
      go_wp2
      exact hn.out w1 hs1
  | some r =>
    rw [e] at hget
    have hn := fun w1 hs1 => hno.out w1 hs1 bad (by rw [e]; cases bad <;> rfl)
    rw [e] at hn
    replace hn := Lib.hid hn
    replace hget := Lib.hid hget
    clear e hno
    cases bad
    · go_enter Try.func27, Try.ntmps27
      go_wp2_with (go_at_call 50; with_reducible (refine hget.out _ _ ?_); unfold unescV)
      intro w1 hs1
      obtain ⟨x0, x1⟩ := hf.out w1 hs1
      go_wp2
      exact hn.out w1 hs1
    · go_enter Try.func27, Try.ntmps27
      go_wp2_with (go_at_call 50; with_reducible (refine hget.out _ _ ?_); unfold unescV)
      intro w1 hs1
      obtain ⟨x0, x1⟩ := hf.out w1 hs1
      go_wp2
      exact hn.out w1 hs1
end Go.Proofs.Ytfbpjadigmkkkaa
