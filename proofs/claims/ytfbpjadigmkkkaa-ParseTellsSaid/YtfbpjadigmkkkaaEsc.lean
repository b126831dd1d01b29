/- Package esc, walked: what its functions tell. -/
import Derived.Test.YtfbpjadigmkkkaaBuild
import Derived.Test.YtfbpjadigmkkkaaEscP
import Derived.Test.YtfbpjadigmkkkaaShelf
import Derived.Test.YtfbpjadigmkkkaaName
namespace Go.Proofs.Ytfbpjadigmkkkaa
open Go.RowKit

theorem take_snoc (s : Str) (k : Nat) (h : k < s.size) : s.data.toList.take (k + 1) = s.data.toList.take k ++ [s[k]] := by
  rw [List.take_succ_eq_append_getElem (by simpa using h)]; rfl
theorem data_len (s : Str) : s.data.toList.length = s.size := by rw [Array.length_toList]; rfl
theorem mk_size (l : List UInt8) : (⟨l.toArray⟩ : ByteArray).size = l.length := rfl
theorem u8_back (c : UInt8) : ((c.toNat : Int)).toNat.toUInt8 = c := by simp

theorem plain_c (c : UInt8) (b : Bool) (hb : plainB c = b) (w : World) {R : Ending → World → Prop} (h : R (.returned (.bool b)) w) : Calls Try.prog 58 #[.int .u8 (c.toNat : Int)] w R := by
  rw [← plain_index] at hb
  go_enter Try.func58, Try.ntmps58
  go_wp2_with (go_at_call 67; refine (Try.strings_IndexByte _ _ _).mono ?_; rintro e w' ⟨rfl, rfl⟩)
  exact h

theorem word_c (c : UInt8) (hc : plainB c = false) (w : World) {R : Ending → World → Prop} (h : R (.returned (.string ⟨(signL c).toArray⟩)) w) : Calls Try.prog 60 #[.int .u8 (c.toNat : Int)] w R := by
  rcases not_plain hc with rfl | rfl | rfl | rfl
  · go_enter Try.func60, Try.ntmps60
    go_wp2
    exact h
  · go_enter Try.func60, Try.ntmps60
    go_wp2
    exact h
  · go_enter Try.func60, Try.ntmps60
    go_wp2
    exact h
  · go_enter Try.func60, Try.ntmps60
    go_wp2
    exact h

theorem builder_string (B b : Nat) (M : Nat → Prop) (l : List UInt8) (w : World) (hb : Bld w B b M l) (hB : B ≤ w.heap.size) {R : Ending → World → Prop}
    (h : ∀ w', Below B w w' → R (.returned (.string ⟨l.toArray⟩)) w') : Calls Try.prog 24 #[.pointer (some ⟨b, 0, none⟩)] w R :=
  (Try.Builder_String_any B b l w hb.is hB).mono fun e w' ⟨he, hw⟩ => by subst he; exact h w' hw

set_option maxHeartbeats 1000000 in
theorem escPut_c (s : Str) (hs : s.size ≤ 20000000000000) (w : World) {R : Ending → World → Prop} (h : ∀ w', Step Nil0 w w' → R (.returned (.string ⟨(escL s.data.toList).toArray⟩)) w') : Calls Try.prog 46 #[.string s] w R := by
  replace h := Lib.hid h
  go_enter Try.func46, Try.ntmps46
  go_wp2
  go_loopw [7] (fun i wr => ∃ (k : Nat) (M : Nat → Prop), k ≤ s.size ∧ i = .int .i64 k ∧ Bld wr w.heap.size w.heap.size M (escL (s.data.toList.take k)) ∧ Up w Nil0 wr M) (fun i _ => s.size - (intOf i).toNat)
  case atStart => exact ⟨0, _, Nat.zero_le _, rfl, Bld.new w w.heap.size (Nat.le_refl _), (Step.refl _ _).alloc _, fun b hb hm => absurd hm (by simp only [One]; omega)⟩
  case round =>
    obtain ⟨k, M, hk, rfl, hbld, hup⟩ := hrel
    have hsz := hup.step.size
    by_cases hlt : k < s.size
    · have HS := Lib.hid (take_snoc s k hlt)
      have hl := escL_len (s.data.toList.take k)
      have htl : (s.data.toList.take k).length ≤ k := List.length_take_le _ _
      have hs6 := signL_len s[k]
      cases hp : plainB s[k]
      · replace hp := Lib.hid hp
        go_wp2_with (first | (go_at_call 58; refine plain_c _ _ hp.out _ ?_) | (go_at_call 60; refine word_c _ hp.out _ ?_) | (go_at_call 45; refine writeString_c _ _ M _ _ _ hbld ?_ hsz ?_))
        · rw [mk_size]; omega
        · intro w1 M1 hup1 hb1
          go_wp2
          go_roundw
          case rel =>
            refine ⟨k + 1, M1, by omega, by go_num, ?_, hup.trans hup1⟩
            rw [HS.out, escL_snoc]; exact hb1
          case measure => simp [intOf]; omega
      · replace hp := Lib.hid hp
        go_wp2_with (first | (go_at_call 58; refine plain_c _ _ hp.out _ ?_) | (go_at_call 59; refine writeByte_c _ _ M _ _ _ hbld ?_ hsz ?_))
        · omega
        · intro w1 M1 hup1 hb1
          go_wp2
          go_roundw
          case rel =>
            refine ⟨k + 1, M1, by omega, by go_num, ?_, hup.trans hup1⟩
            rw [HS.out, escL_snoc, signL_plain hp.out]; exact hb1
          case measure => simp [intOf]; omega
    · obtain rfl : k = s.size := by omega
      go_wp2_with (go_at_call 24; refine builder_string _ _ M _ _ hbld hsz ?_)
      intro w1 hb1
      have hst : Step Nil0 w w1 := hup.step.trans (Step.of_belowB (M := fun b => w.heap.size ≤ b) hb1 (fun b _ hb => hb)) (fun b hb hm => absurd hm (by omega))
      rw [List.take_of_length_le (by rw [data_len]; exact Nat.le_refl _)]
      go_wp2
      exact h.out w1 hst

theorem prefix_c (s p : Str) (b : Bool) (hb : Lib.hasPrefix s.data.toList p.data.toList = b) (w : World) {R : Ending → World → Prop} (h : R (.returned (.bool b)) w) : Calls Try.prog 25 #[.string s, .string p] w R := by
  subst hb
  exact (Try.strings_HasPrefix s p w).mono fun e w' ⟨he, hw⟩ => by subst he; subst hw; exact h

theorem list_of_ne {s : Str} (h0 : 0 < s.size) : ∃ r, s.data.toList = s[0] :: r := by
  obtain ⟨⟨l⟩⟩ := s
  cases l with
  | nil => exact absurd h0 (by simp [ByteArray.size])
  | cons c r => exact ⟨r, rfl⟩

set_option maxHeartbeats 1000000 in
theorem first_c (s : Str) (h0 : 0 < s.size) (w : World) {R : Ending → World → Prop} (h : R (.returned (.tuple #[.int .u8 ((firstL s.data.toList).1.toNat : Int), .int .i64 ((firstL s.data.toList).2 : Int)])) w) :
    Calls Try.prog 63 #[.string s] w R := by
  obtain ⟨r, hr⟩ := list_of_ne h0
  replace hr := Lib.hid hr
  cases hp : plainB s[0]
  · replace hp := Lib.hid hp
    go_enter Try.func63, Try.ntmps63
    go_wp2_with (go_at_call 58; refine plain_c _ _ hp.out _ ?_)
    have hfirst : ∀ (p : List UInt8) (c : UInt8) (n : Nat) (H : firstL s.data.toList = (c, n)), R (.returned (.tuple #[.int .u8 (c.toNat : Int), .int .i64 (n : Int)])) w := fun p c n H => by rw [H] at h; exact h
    replace hfirst := Lib.hid hfirst
    clear h
    go_loop [11] (fun i => ∃ k : Nat, k ≤ 4 ∧ i = .int .i64 k ∧ (0 < k → Lib.hasPrefix s.data.toList [38, 97, 109, 112, 59] = false) ∧ (1 < k → Lib.hasPrefix s.data.toList [38, 108, 116, 59] = false) ∧
      (2 < k → Lib.hasPrefix s.data.toList [38, 103, 116, 59] = false) ∧ (3 < k → Lib.hasPrefix s.data.toList [38, 113, 117, 111, 116, 59] = false)) (fun i => 4 - (intOf i).toNat)
    case atStart => exact ⟨0, by omega, rfl, by omega, by omega, by omega, by omega⟩
    case round =>
      obtain ⟨k, hk, rfl, g1, g2, g3, g4⟩ := hrel
      have hk' : k = 0 ∨ k = 1 ∨ k = 2 ∨ k = 3 ∨ k = 4 := by omega
      clear hk
      rcases hk' with rfl | rfl | rfl | rfl | rfl
      · clear g1 g2 g3 g4
        cases hx : Lib.hasPrefix s.data.toList [38, 97, 109, 112, 59]
        · replace hx := Lib.hid hx
          go_wp2_with (first | (go_at_call 60; refine word_c 38 rfl _ ?_) | (go_at_call 25; refine prefix_c _ _ false hx.out _ ?_))
          go_round
          case rel => exact ⟨1, by omega, rfl, fun _ => by first | exact hx.out | trivial, by omega, by omega, by omega⟩
          case measure => decide
        · replace hx := Lib.hid hx
          go_wp2_with (first | (go_at_call 60; refine word_c 38 rfl _ ?_) | (go_at_call 25; refine prefix_c _ _ true hx.out _ ?_))
          exact hfirst.out [] 38 5 (by rw [hr.out] at hx ⊢; simp only [firstL]; rw [if_neg (by rw [hp.out]; decide), if_pos hx.out])
      · have G1 := Lib.hid (g1 (by omega))
        clear g1 g2 g3 g4
        cases hx : Lib.hasPrefix s.data.toList [38, 108, 116, 59]
        · replace hx := Lib.hid hx
          go_wp2_with (first | (go_at_call 60; refine word_c 60 rfl _ ?_) | (go_at_call 25; refine prefix_c _ _ false hx.out _ ?_))
          go_round
          case rel => exact ⟨2, by omega, rfl, fun _ => by first | exact G1.out | trivial, fun _ => by first | exact hx.out | trivial, by omega, by omega⟩
          case measure => decide
        · replace hx := Lib.hid hx
          go_wp2_with (first | (go_at_call 60; refine word_c 60 rfl _ ?_) | (go_at_call 25; refine prefix_c _ _ true hx.out _ ?_))
          exact hfirst.out [] 60 4 (by rw [hr.out] at hx G1 ⊢; simp only [firstL]; rw [if_neg (by rw [hp.out]; decide), if_neg (by rw [G1.out]; decide), if_pos hx.out])
      · have G1 := Lib.hid (g1 (by omega))
        have G2 := Lib.hid (g2 (by omega))
        clear g1 g2 g3 g4
        cases hx : Lib.hasPrefix s.data.toList [38, 103, 116, 59]
        · replace hx := Lib.hid hx
          go_wp2_with (first | (go_at_call 60; refine word_c 62 rfl _ ?_) | (go_at_call 25; refine prefix_c _ _ false hx.out _ ?_))
          go_round
          case rel => exact ⟨3, by omega, rfl, fun _ => by first | exact G1.out | trivial, fun _ => by first | exact G2.out | trivial, fun _ => by first | exact hx.out | trivial, by omega⟩
          case measure => decide
        · replace hx := Lib.hid hx
          go_wp2_with (first | (go_at_call 60; refine word_c 62 rfl _ ?_) | (go_at_call 25; refine prefix_c _ _ true hx.out _ ?_))
          exact hfirst.out [] 62 4 (by rw [hr.out] at hx G1 G2 ⊢; simp only [firstL]; rw [if_neg (by rw [hp.out]; decide), if_neg (by rw [G1.out]; decide), if_neg (by rw [G2.out]; decide), if_pos hx.out])
      · have G1 := Lib.hid (g1 (by omega))
        have G2 := Lib.hid (g2 (by omega))
        have G3 := Lib.hid (g3 (by omega))
        clear g1 g2 g3 g4
        cases hx : Lib.hasPrefix s.data.toList [38, 113, 117, 111, 116, 59]
        · replace hx := Lib.hid hx
          go_wp2_with (first | (go_at_call 60; refine word_c 34 rfl _ ?_) | (go_at_call 25; refine prefix_c _ _ false hx.out _ ?_))
          go_round
          case rel => exact ⟨4, by omega, rfl, fun _ => by first | exact G1.out | trivial, fun _ => by first | exact G2.out | trivial, fun _ => by first | exact G3.out | trivial, fun _ => by first | exact hx.out | trivial⟩
          case measure => decide
        · replace hx := Lib.hid hx
          go_wp2_with (first | (go_at_call 60; refine word_c 34 rfl _ ?_) | (go_at_call 25; refine prefix_c _ _ true hx.out _ ?_))
          exact hfirst.out [] 34 6 (by rw [hr.out] at hx G1 G2 G3 ⊢; simp only [firstL]; rw [if_neg (by rw [hp.out]; decide), if_neg (by rw [G1.out]; decide), if_neg (by rw [G2.out]; decide), if_neg (by rw [G3.out]; decide), if_pos hx.out])
      · have G1 := Lib.hid (g1 (by omega))
        have G2 := Lib.hid (g2 (by omega))
        have G3 := Lib.hid (g3 (by omega))
        have G4 := Lib.hid (g4 (by omega))
        clear g1 g2 g3 g4
        go_wp2
        exact hfirst.out [] 0 0 (by rw [hr.out] at G1 G2 G3 G4 ⊢; simp only [firstL]; rw [if_neg (by rw [hp.out]; decide), if_neg (by rw [G1.out]; decide), if_neg (by rw [G2.out]; decide), if_neg (by rw [G3.out]; decide), if_neg (by rw [G4.out]; decide)])
  · rw [hr.out, show firstL (s[0] :: r) = (s[0], 1) from by simp [firstL, hp]] at h
    replace hp := Lib.hid hp
    go_enter Try.func63, Try.ntmps63
    go_wp2_with (go_at_call 58; refine plain_c _ _ hp.out _ ?_)
    exact h

def strLen : Value → Nat | .string s => s.size | _ => 0
def unescV (o : Option (List UInt8)) : Value := match o with
  | some r => .tuple #[.string ⟨r.toArray⟩, .bool true]
  | none => .tuple #[.string ⟨#[]⟩, .bool false]
theorem ext_data (s : Str) (a : Nat) : (s.extract a s.size).data.toList = s.data.toList.drop a := by
  rw [Lib.extract_eq]
  show ((s.data.toList.drop a).take (s.size - a)) = _
  exact List.take_of_length_le (by rw [List.length_drop, data_len]; exact Nat.le_refl _)
theorem ext_size (s : Str) (a : Nat) (h : a ≤ s.size) : (s.extract a s.size).size = s.size - a := by
  rw [← data_len, ext_data, List.length_drop, data_len]
theorem isEmpty_ne {s : Str} (h : ¬ s.size = 0) : s.toList.isEmpty = false := by simpa using toList_ne h
theorem ne_nil {s : Str} (h0 : ¬ s.size = 0) : s.data.toList ≠ [] := by
  intro e
  have := congrArg List.length e
  rw [data_len] at this
  exact h0 this

set_option maxHeartbeats 1000000 in
theorem escGet_c (s : Str) (hs : s.size ≤ 20000000000000) (w : World) {R : Ending → World → Prop} (h : ∀ w', Step Nil0 w w' → R (.returned (unescV (unescL s.data.toList))) w') :
    Calls Try.prog 50 #[.string s] w R := by
  replace h := Lib.hid h
  go_enter Try.func50, Try.ntmps50
  go_wp2
  go_loopw [0] (fun v wr => ∃ (s' : Str) (out : List UInt8) (M : Nat → Prop), v = .string s' ∧ Bld wr w.heap.size w.heap.size M out ∧ Up w Nil0 wr M ∧
      unescL s.data.toList = (unescL s'.data.toList).map (out ++ ·) ∧ out.length + s'.size ≤ s.size) (fun v _ => strLen v)
  case atStart => exact ⟨s, [], _, rfl, Bld.new w w.heap.size (Nat.le_refl _), ⟨(Step.refl _ _).alloc _, fun b hb hm => absurd hm (by simp only [One]; omega)⟩, by cases unescL s.data.toList <;> simp, by simp⟩
  case round =>
    obtain ⟨s', out, M, rfl, hbld, hup, hun, hle⟩ := hrel
    replace hun := Lib.hid hun
    have hsz := hup.step.size
    have hst : ∀ w1, Below w.heap.size wr w1 → Step Nil0 w w1 := fun w1 hb1 => hup.step.trans (Step.of_belowB (M := fun b => w.heap.size ≤ b) hb1 (fun b _ hb => hb)) (fun b hb hm => absurd hm (by omega))
    replace hst := Lib.hid hst
    by_cases h0 : s'.size = 0
    · have e0 := toList_nil h0
      have e1 : s'.data.toList = [] := List.eq_nil_of_length_eq_zero (by rw [data_len]; exact h0)
      replace e1 := Lib.hid e1
      clear h0
      go_wp2_with (go_at_call 24; refine builder_string _ _ M _ _ hbld hsz ?_)
      intro w1 hb1
      go_wp2
      have hr := h.out w1 (hst.out w1 hb1)
      rw [hun.out, e1.out, unescL_nil] at hr
      simpa [unescV] using hr
    · have e0 := isEmpty_ne h0
      have hstep := unescL_step (ne_nil h0)
      have hfl := firstL_le s'.data.toList
      have hfc := fun w R => @first_c s' (by omega) w R
      rw [data_len] at hfl
      generalize hf : firstL s'.data.toList = f at hstep hfl hfc
      obtain ⟨c, n⟩ := f
      clear hf
      replace hstep := Lib.hid hstep
      replace hfc := Lib.hid hfc
      simp only at hfl
      by_cases hn : n = 0
      · subst hn
        go_wp2_with (go_at_call 63; refine hfc.out _ _ ?_)
        have hr := h.out wr (hup.step.mono (fun _ _ h => h))
        rw [hun.out, hstep.out] at hr
        simpa [unescV] using hr
      · have hn0 : ((n : Int) == 0) = false := by simpa using hn
        go_wp2_with (first | (go_at_call 63; refine hfc.out _ _ ?_) | (go_at_call 59; refine writeByte_c _ _ M _ _ _ hbld ?_ hsz ?_))
        · omega
        intro w1 M1 hup1 hb1
        go_wp2
        go_roundw
        case rel =>
          refine ⟨_, out ++ [c], M1, rfl, hb1, hup.trans hup1, ?_, ?_⟩
          · rw [hun.out, hstep.out, if_neg hn, ext_data]
            cases unescL (s'.data.toList.drop n) <;> simp
          · rw [ext_size _ _ hfl, List.length_append]; simp; omega
        case measure => rw [show strLen (.string (s'.extract n s'.size)) = _ from ext_size _ _ hfl]; simp only [strLen]; omega
end Go.Proofs.Ytfbpjadigmkkkaa
