/- ParseBack of layer 10, proved for every text and every list of trees, whatever internal/bytealg.MaxLen holds: the law returns true, and its arguments read behind the call as they read before. No other condition than the row's own. -/
import Derived.Test.YtfbpjadigmkkkaaRows
import Derived.Test.YtfbpjadigmkkkaaBack
import Derived.Test.YtfbpjadigmkkkaaRead
import Derived.ProofKit
import Derived.HandedShaped
import Derived.Carry
import Derived.Shelf.Vars
namespace Go.Proofs.Ytfbpjadigmkkkaa
open Go.ChangeShapes Go.WideShapes Go.ChangeAt Go.RowKit
open Go.ChangeMaps (open_string shut_string)

theorem own_knob : ownKnob Try.prog.godebug = none := by kernel_rfl
theorem laid_out : laidOutB Try.prog = true := by kernel_rfl
theorem maxLen_cell {w : World} (h : w.ShapedOpen Try.prog) : ∃ m, w.cell? ⟨0, 0, none⟩ = some (.int .i64 m) :=
  cell_of_shapedOpen_int (zero := #[.int .i64 0]) (t := 3) h (of_decide_eq_true (by kernel_rfl)) (by kernel_rfl) rfl (by kernel_rfl) (by kernel_rfl) Try.underlying3
theorem Tree.small_mono {N M : Nat} (h : N ≤ M) : ∀ (n : Nat) (t : Tree), SizeOf.sizeOf t ≤ n → t.small N → t.small M := by
  intro n
  induction n with
  | zero => intro t hn; obtain ⟨tag, text, key, attrs, kids⟩ := t; simp only [Tree.mk.sizeOf_spec] at hn; omega
  | succ n ih =>
    intro t hn hs
    rw [Tree.small_iff] at hs ⊢
    obtain ⟨h1, h2, h3, h4, h5⟩ := hs
    refine ⟨by omega, by omega, by omega, fun a ha => ⟨by have := (h4 a ha).1; omega, by have := (h4 a ha).2; omega⟩, fun k hk => ih k (by have := kid_lt hk; omega) (h5 k hk)⟩

set_option maxRecDepth 100000 in
theorem parseBack_lifted (os : Os) (started : os.Started) (H : Type) (enc : TypeId × Value → H) :
    ReturnsInHanded {} Try.checked os 4 .any (Rows.parseBackSpec.pre6 enc Try.prog Try.f4 Rows.parseBackRow.domain false) (Rows.parseBackSpec.post enc Try.prog Try.f4 false true false false) := by
  refine returnsInHanded_of_change_shaped (C := Try.checked) own_knob started (by kernel_rfl) Try.func4
    (ChangeSpec.witness6 (enc := enc) (C := Try.checked) false ⟨#[], #[.string ByteArray.empty, .slice none 0 0], []⟩ 8 (by kernel_rfl) (by kernel_rfl) (by kernel_rfl) (by kernel_rfl)) ?_
  intro W base args ds gs before hval0 hW _ _ hshape _
  have hval : ∀ (j : Nat) t v, Try.f4.params[j]? = some t → args[j]? = some v → Value.okWide Try.prog W .any base t v := hval0
  have hW' := hW
  obtain ⟨p, q, hA0, hV, rfl, hfz, hnd⟩ := hW
  have hA : DataW.TrodAll enc Try.prog W 0 (fun _ => true) true Try.f4.params.toList args.toList ds p := hA0
  rw [Try.params4] at hA hval
  obtain ⟨v0, v1, d0, d1, p0, p1, rfl, rfl, rfl, h0, h1⟩ := trodAll_two hA
  obtain ⟨rfl, rfl⟩ := trodVars_none hV
  obtain ⟨s, rfl, rfl, rfl, hs⟩ := open_string Try.underlying9 (hval 0 9 v0 rfl rfl) h0
  obtain ⟨A, len, cap, rfl⟩ := okWide_slice Try.underlying23 (hval 1 23 v1 rfl rfl)
  obtain ⟨ts, hts, hsm⟩ := trees_of_trod h1 (by rfl)
  obtain ⟨k, hm⟩ := maxLen_cell hshape
  clear hA0 hval0
  simp only [List.append_nil] at hW'
  have hlt : ∀ x ∈ p1, x.block < W.heap.size := fun x hx => by simpa using hW'.lt x (by simp [hx])
  have hsm9 : ∀ t ∈ ts, t.small 9223372036854775807 := fun t ht => Tree.small_mono (by unfold maxLen; omega) _ t (Nat.le_refl _) (hsm t ht)
  have hs9 : s.data.toList.length ≤ 9223372036854775807 := by
    rw [data_len]
    unfold maxLen at hs
    omega
  have walk := parseBack_c Nil0 s.data.toList ts (.slice A len cap) k W hm hs9 hts hsm9 (R := fun e W' => e = .returned (.bool true) ∧ Below W.heap.size W W')
    (fun w' hst => ⟨rfl, hst.below (fun _ hb => hb.elim) (Nat.le_refl _)⟩)
  rw [str_of] at walk
  refine walk.mono fun e W' ⟨he, hnx⟩ => ?_
  subst he
  refine ⟨_, rfl, _, _, _, [], [] ++ p1, [], hW', ?_, ?_, rfl, hnx.frame _, fun h => by cases h⟩
  · exact trodAll_mk1 (shut_bool Try.underlying4 true)
  · exact trodAll_mk2 (shut_string Try.underlying9 hs) (Below.trod laid_out (by kernel_rfl) (of_decide_eq_true (by kernel_rfl)) h1 hnx hlt)

theorem parseBack_holds : Rows.ParseBackSaid :=
  OpenClaim.holds_of_wide 4 Try.f4 rfl rfl rfl rfl rfl rfl rfl ⟨rfl, rfl, rfl, rfl, rfl⟩ rfl rfl rfl rfl rfl (by kernel_rfl) Try.func4 (by kernel_rfl)
    (of_decide_eq_true (by kernel_rfl)) (by unfold Func.isWrapper; first | (rw [if_pos (by decide +kernel)]; kernel_rfl) | (rw [if_neg (by decide +kernel)]; exact ⟨rfl, rfl⟩))
    (fun os started H enc _ => parseBack_lifted os started H enc)
#print axioms parseBack_holds
end Go.Proofs.Ytfbpjadigmkkkaa
