/- The reference's names, texts and escapes (package placketref01), walked: they tell what the program's own functions tell. -/
import Derived.Test.YtfbpjadigmkkkaaEsc
import Derived.Lib.SmallJoins
import Derived.Lib.ConvBytes
namespace Go.Proofs.Ytfbpjadigmkkkaa
open Go.RowKit

theorem rletter_c (c : Int) (b : Bool) (hb : (decide (97 ≤ c) && decide (c ≤ 122)) = b) (w : World) {R : Ending → World → Prop} (h : R (.returned (.bool b)) w) : Calls Try.prog 55 #[.int .u8 c] w R := by
  subst hb
  by_cases h1 : 97 ≤ c
  · have h1' : decide (97 ≤ c) = true := decide_eq_true h1
    rw [h1', Bool.true_and] at h
    go_enter Try.func55, Try.ntmps55
    go_wp2
    exact h
  · have h1' : decide (97 ≤ c) = false := decide_eq_false h1
    rw [h1', Bool.false_and] at h
    go_enter Try.func55, Try.ntmps55
    go_wp2
    exact h

theorem rtext_c (s : Str) (hs : s.size ≤ 9223372036854775807) (w : World) {R : Ending → World → Prop} (h : R (.returned (.bool (isText s))) w) : Calls Try.prog 38 #[.string s] w R := by
  replace h := Lib.hid h
  go_enter Try.func38, Try.ntmps38
  go_wp2
  go_loop [3] (fun i => ∃ k : Nat, k ≤ s.size ∧ i = .int .i64 k ∧ ∀ j (hj : j < s.size), j < k → textB s[j] = true) (fun i => s.size - (intOf i).toNat)
  case atStart => exact ⟨0, Nat.zero_le _, rfl, fun j _ h => absurd h (by omega)⟩
  case round =>
    obtain ⟨k, hk, rfl, hall⟩ := hrel
    replace hall := Lib.hid hall
    by_cases hlt : k < s.size
    · by_cases h1 : ((s[k].toNat : Int) < 32)
      · go_wp2
        have hr := h.out
        rw [isText_no hlt (by simp [textB, h1])] at hr; exact hr
      · by_cases h2 : (126 < (s[k].toNat : Int))
        · go_wp2
          have hr := h.out
          rw [isText_no hlt (by simp [textB, h2])] at hr; exact hr
        · go_wp2
          go_round
          case rel =>
            refine ⟨k + 1, by omega, by go_num, fun j hj hjk => ?_⟩
            rcases Nat.lt_or_ge j k with h3 | h3
            · exact hall.out j hj h3
            · obtain rfl : j = k := by omega
              simp [textB, h1, h2]
          case measure => simp [intOf]; omega
    · go_wp2
      have hr := h.out
      rw [isText_end (fun j hj => hall.out j hj (by omega)), show decide (s.size ≤ 60) = decide ((s.size : Int) ≤ 60) from decide_eq_decide.2 (by omega)] at hr
      exact hr

theorem rname_c (s : Str) (hs : s.size ≤ 9223372036854775807) (w : World) {R : Ending → World → Prop} (h : R (.returned (.bool (isName s))) w) : Calls Try.prog 39 #[.string s] w R := by
  replace h := Lib.hid h
  by_cases h0 : s.size = 0
  · have hf : isName s = false := by unfold isName; rw [decide_eq_false (show ¬ 1 ≤ s.size by omega)]; rfl
    replace hf := Lib.hid hf
    go_enter Try.func39, Try.ntmps39
    go_wp2
    have hr := h.out
    rw [hf.out] at hr; exact hr
  have e1 : decide ((s.size : Int) < 1) = false := decide_eq_false (by omega)
  by_cases h12 : 12 < s.size
  · have hf : isName s = false := by unfold isName; rw [decide_eq_false (show ¬ s.size ≤ 12 by omega), Bool.and_false]; rfl
    replace hf := Lib.hid hf
    go_enter Try.func39, Try.ntmps39
    go_wp2
    have hr := h.out
    rw [hf.out] at hr; exact hr
  have e2 : decide (12 < (s.size : Int)) = false := decide_eq_false (by omega)
  go_enter Try.func39, Try.ntmps39
  go_wp2
  go_loop [3] (fun i => ∃ k : Nat, k ≤ s.size ∧ i = .int .i64 k ∧ (∀ j (hj : j < s.size), j < k → nameB s[j] = true) ∧ (∀ hj : 0 < s.size, 0 < k → letterB s[0] = true)) (fun i => s.size - (intOf i).toNat)
  case atStart => exact ⟨0, Nat.zero_le _, rfl, fun j _ h => absurd h (by omega), fun _ h => absurd h (by omega)⟩
  case round =>
    obtain ⟨k, hk, rfl, hall, hl⟩ := hrel
    replace hall := Lib.hid hall
    replace hl := Lib.hid hl
    by_cases hlt : k < s.size
    · have step : nameB s[k] = true → ∀ j (hj : j < s.size), j < k + 1 → nameB s[j] = true := by
        intro hn j hj hjk
        rcases Nat.lt_or_ge j k with h3 | h3
        · exact hall.out j hj h3
        · obtain rfl : j = k := by omega
          exact hn
      replace step := Lib.hid step
      cases hlk : letterB s[k]
      · replace hlk := Lib.hid hlk
        by_cases hk0 : k = 0
        · subst hk0
          have hf := isName_head hlt hlk.out
          replace hf := Lib.hid hf
          go_wp2_with (go_at_call 55; refine rletter_c _ _ hlk.out _ ?_)
          have hr := h.out
          rw [hf.out] at hr; exact hr
        have ek : ((k : Int) == 0) = false := by simpa using hk0
        have hl1 : ∀ hj : 0 < s.size, 0 < k + 1 → letterB s[0] = true := fun hj _ => hl.out hj (by omega)
        replace hl1 := Lib.hid hl1
        by_cases h1 : ((s[k].toNat : Int) < 48)
        · cases h3 : ((s[k].toNat : Int) == 45)
          · have h3' : ((s[k].toNat : Int) != 45) = true := by simp [bne, h3]
            go_wp2_with (go_at_call 55; refine rletter_c _ _ hlk.out _ ?_)
            have hr := h.out
            rw [isName_no hlt (by simp [nameB, hlk.out, h1]; simpa using h3)] at hr; exact hr
          · have h3' : ((s[k].toNat : Int) != 45) = false := by simp [bne, h3]
            go_wp2_with (go_at_call 55; refine rletter_c _ _ hlk.out _ ?_)
            go_round
            case rel => exact ⟨k + 1, by omega, by go_num, step.out (by simp [nameB]; right; simpa using h3), hl1.out⟩
            case measure => simp [intOf]; omega
        · by_cases h2 : (57 < (s[k].toNat : Int))
          · have h3 : ((s[k].toNat : Int) == 45) = false := by simp; omega
            have h3' : ((s[k].toNat : Int) != 45) = true := by simp [bne, h3]
            go_wp2_with (go_at_call 55; refine rletter_c _ _ hlk.out _ ?_)
            have hr := h.out
            rw [isName_no hlt (by simp [nameB, hlk.out, h2]; simpa using h3)] at hr; exact hr
          · go_wp2_with (go_at_call 55; refine rletter_c _ _ hlk.out _ ?_)
            go_round
            case rel => exact ⟨k + 1, by omega, by go_num, step.out (by simp [nameB]; left; right; omega), hl1.out⟩
            case measure => simp [intOf]; omega
      · replace hlk := Lib.hid hlk
        go_wp2_with (go_at_call 55; refine rletter_c _ _ hlk.out _ ?_)
        go_round
        case rel =>
          refine ⟨k + 1, by omega, by go_num, step.out (by simp [nameB, hlk.out]), fun hj _ => ?_⟩
          rcases Nat.eq_zero_or_pos k with rfl | hp
          · exact hlk.out
          · exact hl.out hj hp
        case measure => simp [intOf]; omega
    · go_wp2
      have hr := h.out
      rw [isName_end (by omega) (by omega) (hl.out (by omega) (by omega)) (fun j hj => hall.out j hj (by omega))] at hr
      exact hr

theorem rvoid_c (s : Str) (w : World) {R : Ending → World → Prop} (h : R (.returned (.bool (isVoid s))) w) : Calls Try.prog 41 #[.string s] w R := by
  unfold isVoid at h
  cases h1 : (s.toList == [98, 114]) <;> cases h2 : (s.toList == [104, 114]) <;> cases h3 : (s.toList == [105, 109, 103]) <;> cases h4 : (s.toList == [105, 110, 112, 117, 116]) <;>
    (rw [h1, h2, h3, h4] at h
     go_enter Try.func41, Try.ntmps41
     go_wp2
     exact h)

theorem conv1 (c : UInt8) (w : World) : (convert 53 9 (.slice (some ⟨w.heap.size, 0, none⟩) 1 1)).run Try.prog (w.alloc (.cells #[.int .u8 (c.toNat : Int)] 5)) =
    .ok (.string ⟨#[c]⟩) (w.alloc (.cells #[.int .u8 (c.toNat : Int)] 5)) := by
  have h := run_convert_bytes_arg (P := Try.prog) (w.alloc (.cells #[.int .u8 (c.toNat : Int)] 5)) 53 5 Try.underlying53 Try.underlying5 w.heap.size 0 1 1 [(c.toNat : Int)] rfl (fun i hi => by
    obtain rfl : i = 0 := by simpa using hi
    rw [cell_of_row _ _ _ _ _ (0, 0) (heap_alloc_new w _)]; rfl) 9 Try.underlying9
  rw [h]
  have e : strOfNums [(c.toNat : Int)] = ⟨#[c]⟩ := by simp [strOfNums]
  rw [e]

theorem sign_c (c : UInt8) (w : World) {R : Ending → World → Prop} (h : ∀ w', Step Nil0 w w' → R (.returned (.string ⟨(signL c).toArray⟩)) w') : Calls Try.prog 54 #[.int .u8 (c.toNat : Int)] w R := by
  cases hc : plainB c
  · replace h := h w (Step.refl _ _)
    rcases not_plain hc with rfl | rfl | rfl | rfl
    · go_enter Try.func54, Try.ntmps54
      go_wp2
      exact h
    · go_enter Try.func54, Try.ntmps54
      go_wp2
      exact h
    · go_enter Try.func54, Try.ntmps54
      go_wp2
      exact h
    · go_enter Try.func54, Try.ntmps54
      go_wp2
      exact h
  · rw [signL_plain hc] at h
    replace h := Lib.hid h
    unfold plainB at hc
    simp only [Bool.not_eq_true', Bool.or_eq_false_iff, beq_eq_false_iff_ne] at hc
    obtain ⟨⟨⟨n1, n2⟩, n3⟩, n4⟩ := hc
    have q : ∀ (n : Nat) (d : UInt8), d.toNat = n → c ≠ d → ((c.toNat : Int) == (n : Int)) = false := by
      intro n d hd hne
      subst hd
      simp only [beq_eq_false_iff_ne, ne_eq, Int.natCast_inj]
      exact fun e => hne (UInt8.toNat_inj.1 e)
    have e1 := q 38 38 rfl n1
    have e2 := q 60 60 rfl n2
    have e3 := q 62 62 rfl n3
    have e4 := q 34 34 rfl n4
    clear q n1 n2 n3 n4
    have hcv := conv1 c
    go_enter Try.func54, Try.ntmps54
    go_wp2
    exact h.out _ ((Step.refl _ _).alloc _)

theorem app_data (a b : Str) : (a ++ b).data.toList = a.data.toList ++ b.data.toList := Joins.data_append a b
theorem app_size (a b : Str) : (a ++ b).size = a.size + b.size := by rw [← data_len, app_data, List.length_append, data_len, data_len]
theorem mk_data' (s : Str) (l : List UInt8) (h : s.data.toList = l) : s = ⟨l.toArray⟩ := by subst h; exact (Lib.mk_data s).symm

set_option maxHeartbeats 1000000 in
theorem rput_c (s : Str) (hs : s.size ≤ 20000000000000) (w : World) {R : Ending → World → Prop} (h : ∀ w', Step Nil0 w w' → R (.returned (.string ⟨(escL s.data.toList).toArray⟩)) w') : Calls Try.prog 56 #[.string s] w R := by
  replace h := Lib.hid h
  go_enter Try.func56, Try.ntmps56
  go_wp2
  go_loopw [3, 4] (fun o i wr => ∃ (k : Nat) (out : Str), k ≤ s.size ∧ i = .int .i64 k ∧ o = .string out ∧ out.data.toList = escL (s.data.toList.take k) ∧ Step Nil0 w wr) (fun _ i _ => s.size - (intOf i).toNat)
  case atStart => exact ⟨0, _, Nat.zero_le _, rfl, rfl, rfl, Step.refl _ _⟩
  case round =>
    obtain ⟨k, out, hk, rfl, rfl, hout, hst⟩ := hrel
    have hol : out.size ≤ 6 * k := by
      have h1 := escL_len (s.data.toList.take k)
      have h2 : (s.data.toList.take k).length ≤ k := List.length_take_le _ _
      rw [← data_len, hout]; omega
    replace hout := Lib.hid hout
    by_cases hlt : k < s.size
    · have HS := Lib.hid (take_snoc s k hlt)
      have hs6 := signL_len s[k]
      have hsz : (⟨(signL s[k]).toArray⟩ : Str).size ≤ 6 := hs6.1
      clear hs6
      go_wp2_with (go_at_call 54; refine sign_c _ _ ?_; intro w1 hst1)
      go_roundw
      case rel =>
        refine ⟨k + 1, out ++ ⟨(signL s[k]).toArray⟩, by omega, by go_num, rfl, ?_, hst.then_ hst1⟩
        rw [app_data, hout.out, HS.out, escL_snoc]
      case measure => simp [intOf]; omega
    · go_wp2
      have hr := h.out wr hst
      rw [List.take_of_length_le (by rw [data_len]; omega)] at hout
      rw [← mk_data' out _ hout.out] at hr
      exact hr

theorem hasPrefix_sign {l : List UInt8} {c : UInt8} (h : Lib.hasPrefix l (signL c) = true) : firstL l = (c, (signL c).length) := by
  unfold Lib.hasPrefix at h
  obtain ⟨r, rfl⟩ := List.isPrefixOf_iff_prefix.1 h
  exact firstL_sign c r
theorem firstL_hit {l : List UInt8} (h : (firstL l).2 ≠ 0) : Lib.hasPrefix l (signL (firstL l).1) = true := by
  unfold firstL at h ⊢
  split at h
  · exact absurd rfl h
  · rename_i c r
    by_cases hp : plainB c = true
    · simp only [if_pos hp, signL_plain hp]
      simp [Lib.hasPrefix]
    · simp only [if_neg hp] at h ⊢
      split
      · rename_i hx; simpa [signL] using hx
      split
      · rename_i hx; simpa [signL] using hx
      split
      · rename_i hx; simpa [signL] using hx
      split
      · rename_i hx; simpa [signL] using hx
      · rename_i h1 h2 h3 h4
        rw [if_neg h1, if_neg h2, if_neg h3, if_neg h4] at h
        exact absurd rfl h

set_option maxHeartbeats 2000000 in
set_option maxRecDepth 100000 in
theorem rget_c (s : Str) (hs : s.size ≤ 20000000000000) (w : World) {R : Ending → World → Prop} (h : ∀ w', Step Nil0 w w' → R (.returned (unescV (unescL s.data.toList))) w') :
    Calls Try.prog 36 #[.string s] w R := by
  replace h := Lib.hid h
  go_enter Try.func36, Try.ntmps36
  go_wp2
  go_loopw [0, 4] (fun v o wr => ∃ (s' out : Str), v = .string s' ∧ o = .string out ∧ Step Nil0 w wr ∧
      unescL s.data.toList = (unescL s'.data.toList).map (out.data.toList ++ ·) ∧ out.size + s'.size ≤ s.size) (fun v _ _ => strLen v)
  case atStart => exact ⟨s, _, rfl, rfl, Step.refl _ _, by cases unescL s.data.toList <;> simp, by rw [mk_size]; simp⟩
  case round =>
    obtain ⟨s', out, rfl, rfl, hst, hun, hle⟩ := hrel
    replace hun := Lib.hid hun
    by_cases h0 : s'.size = 0
    · have e1 : s'.data.toList = [] := List.eq_nil_of_length_eq_zero (by rw [data_len]; exact h0)
      replace e1 := Lib.hid e1
      go_wp2
      have hr := h.out wr hst
      rw [hun.out, e1.out, unescL_nil] at hr
      simp only [Option.map_some, List.append_nil, unescV] at hr
      rw [← mk_data' out _ rfl] at hr
      exact hr
    · have hstep := unescL_step (ne_nil h0)
      have hfl := firstL_le s'.data.toList
      have hhit := @firstL_hit s'.data.toList
      have hpre := fun c => @hasPrefix_sign s'.data.toList c
      rw [data_len] at hfl
      generalize hf : firstL s'.data.toList = f at hstep hfl hhit hpre
      obtain ⟨c, n⟩ := f
      clear hf
      replace hstep := Lib.hid hstep
      replace hhit := Lib.hid hhit
      replace hpre := Lib.hid hpre
      simp only at hfl
      go_wp2
      go_loopw [4, 5, 6, 7] (fun o m i _ wr' => ∃ (out' : Str) (k : Nat), k ≤ 256 ∧ i = .int .i64 k ∧ o = .string out' ∧ Step Nil0 w wr' ∧
        ((m = .int .i64 0 ∧ out' = out ∧ (∀ d : UInt8, d.toNat < k → Lib.hasPrefix s'.data.toList (signL d) = false)) ∨ (n ≠ 0 ∧ m = .int .i64 n ∧ out'.data.toList = out.data.toList ++ [c]))) (fun _ _ i _ _ => 256 - (intOf i).toNat)
      case atStart => exact ⟨out, 0, by omega, rfl, rfl, hst, .inl ⟨rfl, rfl, fun d hd => absurd hd (by omega)⟩⟩
      case round =>
        obtain ⟨out', k, hk, rfl, rfl, hst', hcase⟩ := hrel
        rcases hcase with ⟨rfl, rfl, hno⟩ | ⟨hn, rfl, hout⟩
        · replace hno := Lib.hid hno
          by_cases hlt : k < 256
          · obtain ⟨d, rfl⟩ : ∃ d : UInt8, k = d.toNat := ⟨UInt8.ofNat k, by simp; omega⟩
            have hw6 := signL_len d
            have hwz : (⟨(signL d).toArray⟩ : Str).size = (signL d).length := rfl
            have hnext : Lib.hasPrefix s'.data.toList (signL d) = false → ∀ e : UInt8, e.toNat < d.toNat + 1 → Lib.hasPrefix s'.data.toList (signL e) = false := by
              intro hf e he
              rcases Nat.lt_or_ge e.toNat d.toNat with h1 | h1
              · exact hno.out e h1
              · obtain rfl : e = d := UInt8.toNat_inj.1 (by omega)
                exact hf
            replace hnext := Lib.hid hnext
            have hraw := Lib.hasPrefix_raw s' ⟨(signL d).toArray⟩
            have hcv := conv1 d
            generalize hwd : (⟨(signL d).toArray⟩ : Str) = wd at hwz hraw
            have hsg : ∀ (w : World) {R : Ending → World → Prop} (_ : ∀ w', Step Nil0 w w' → R (.returned (.string wd)) w'), Calls Try.prog 54 #[.int .u8 (d.toNat : Int)] w R := fun w R h => sign_c d w (by rw [hwd]; exact h)
            replace hsg := Lib.hid hsg
            have hwl : wd.data.toList = signL d := by rw [← hwd]
            rw [hwl] at hraw
            replace hwl := Lib.hid hwl
            replace hwz := Lib.hid hwz
            have hw7 : 1 ≤ wd.size ∧ wd.size ≤ 6 := by rw [hwz.out]; omega
            clear hwd hw6
            cases hpx : Lib.hasPrefix s'.data.toList (signL d)
            · replace hpx := Lib.hid hpx
              by_cases hlen : wd.size ≤ s'.size
              · have hr2 : ((s'.extract 0 wd.size).toList == wd.toList) = false := by rw [hpx.out] at hraw; simpa [hlen] using hraw
                clear hraw
                go_wp2_with (go_at_call 54; refine hsg.out _ ?_; intro w1 hst1)
                go_roundw
                case rel => exact ⟨out', d.toNat + 1, by omega, by go_num, rfl, hst'.then_ hst1, .inl ⟨rfl, rfl, hnext.out hpx.out⟩⟩
                case measure => simp [intOf]; omega
              · clear hraw
                go_wp2_with (go_at_call 54; refine hsg.out _ ?_; intro w1 hst1)
                go_roundw
                case rel => exact ⟨out', d.toNat + 1, by omega, by go_num, rfl, hst'.then_ hst1, .inl ⟨rfl, rfl, hnext.out hpx.out⟩⟩
                case measure => simp [intOf]; omega
            · have hx := hpre.out d hpx
              rw [hpx] at hraw
              clear hpx
              simp only [Bool.and_eq_true, decide_eq_true_eq] at hraw
              obtain ⟨hlen, hr2⟩ := hraw
              injection hx with hx1 hx2
              subst hx1
              have hx3 : wd.size = n := by rw [hwz.out, hx2]
              clear hx2
              subst hx3
              go_wp2_with (go_at_call 54; refine hsg.out _ ?_; intro w1 hst1)
              go_roundw
              case rel => exact ⟨_, c.toNat + 1, by omega, by go_num, rfl, (hst'.then_ hst1).alloc _, .inr ⟨by omega, rfl, by rw [app_data]⟩⟩
              case measure => simp [intOf]; omega
          · go_wp2
            have hr := h.out wr hst'
            have hn : n = 0 := by
              rcases Nat.eq_zero_or_pos n with h1 | h1
              · exact h1
              · have h2 := hhit.out (by omega)
                rw [hno.out c (by have := c.toNat_lt; omega)] at h2
                cases h2
            rw [hun.out, hstep.out, if_pos hn] at hr
            simpa [unescV] using hr
        · replace hout := Lib.hid hout
          have hn0 : ((n : Int) == 0) = false := by simpa using hn
          by_cases hlt : k < 256
          · go_wp2
            go_roundw
            case rel =>
              refine ⟨_, out', rfl, rfl, hst', ?_, ?_⟩
              · rw [hun.out, hstep.out, if_neg hn, ext_data, hout.out]
                cases unescL (s'.data.toList.drop n) <;> simp
              · have ho : out'.size = out.size + 1 := by rw [← data_len, hout.out, List.length_append, data_len]; rfl
                rw [ext_size _ _ hfl, ho]; omega
            case measure => rw [show strLen (.string (s'.extract n s'.size)) = _ from ext_size _ _ hfl]; simp only [strLen]; omega
          · go_wp2
            go_roundw
            case rel =>
              refine ⟨_, out', rfl, rfl, hst', ?_, ?_⟩
              · rw [hun.out, hstep.out, if_neg hn, ext_data, hout.out]
                cases unescL (s'.data.toList.drop n) <;> simp
              · have ho : out'.size = out.size + 1 := by rw [← data_len, hout.out, List.length_append, data_len]; rfl
                rw [ext_size _ _ hfl, ho]; omega
            case measure => rw [show strLen (.string (s'.extract n s'.size)) = _ from ext_size _ _ hfl]; simp only [strLen]; omega
end Go.Proofs.Ytfbpjadigmkkkaa
