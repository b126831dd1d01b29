/- ParseTells of layer 10, proved for every text, whatever internal/bytealg.MaxLen holds: the law returns true, and its argument reads behind the call as it read before. No other condition than the row's own. -/
import Derived.Test.YtfbpjadigmkkkaaRows
import Derived.Test.YtfbpjadigmkkkaaTells
import Derived.Test.YtfbpjadigmkkkaaGElem
import Derived.ProofKit
import Derived.HandedShaped
import Derived.Carry
import Derived.Shelf.Vars
namespace Go.Proofs.Ytfbpjadigmkkkaa
open Go.ChangeShapes Go.WideShapes Go.ChangeAt Go.RowKit
open Go.ChangeMaps (open_string shut_string)

theorem guess_c (n : Nat) : GuessC n := by
  induction n with
  | zero => exact guess_zero
  | succ n ih => exact guess_step n (gelem_c n ih)
theorem own_knob : ownKnob Try.prog.godebug = none := by kernel_rfl
theorem maxLen_cell {w : World} (h : w.ShapedOpen Try.prog) : ∃ m, w.cell? ⟨0, 0, none⟩ = some (.int .i64 m) :=
  cell_of_shapedOpen_int (zero := #[.int .i64 0]) (t := 3) h (of_decide_eq_true (by kernel_rfl)) (by kernel_rfl) rfl (by kernel_rfl) (by kernel_rfl) Try.underlying3

set_option maxRecDepth 100000 in
theorem parseTells_lifted (os : Os) (started : os.Started) (H : Type) (enc : TypeId × Value → H) :
    ReturnsInHanded {} Try.checked os 3 .any (Rows.parseTellsSpec.pre6 enc Try.prog Try.f3 Rows.parseTellsRow.domain false) (Rows.parseTellsSpec.post enc Try.prog Try.f3 false true false false) := by
  refine returnsInHanded_of_change_shaped (C := Try.checked) own_knob started (by kernel_rfl) Try.func3
    (ChangeSpec.witness6 (enc := enc) (C := Try.checked) false ⟨#[], #[.string ByteArray.empty], []⟩ 8 (by kernel_rfl) (by kernel_rfl) (by kernel_rfl) (by kernel_rfl)) ?_
  intro W base args ds gs before hval0 hW _ _ hshape _
  have hval : ∀ (j : Nat) t v, Try.f3.params[j]? = some t → args[j]? = some v → Value.okWide Try.prog W .any base t v := hval0
  have hW' := hW
  obtain ⟨p, q, hA0, hV, rfl, hfz, hnd⟩ := hW
  have hA : DataW.TrodAll enc Try.prog W 0 (fun _ => true) true Try.f3.params.toList args.toList ds p := hA0
  rw [Try.params3] at hA hval
  obtain ⟨v0, d0, rfl, rfl, h0⟩ := trodAll_one hA
  obtain ⟨rfl, rfl⟩ := trodVars_none hV
  obtain ⟨s, rfl, rfl, rfl, hs⟩ := open_string Try.underlying9 (hval 0 9 v0 rfl rfl) h0
  obtain ⟨k, hm⟩ := maxLen_cell hshape
  clear hA0 hval0
  simp only [List.append_nil] at hW'
  have hs9 : s.data.toList.length ≤ 9223372036854775807 := by
    rw [data_len]
    unfold maxLen at hs
    omega
  have walk := parseTells_c guess_c s.data.toList k W hm hs9 (R := fun e W' => e = .returned (.bool true) ∧ Below W.heap.size W W')
    (fun w' hst => ⟨rfl, hst.below (fun _ hb => hb.elim) (Nat.le_refl _)⟩)
  rw [str_of] at walk
  refine walk.mono fun e W' ⟨he, hnx⟩ => ?_
  subst he
  refine ⟨_, rfl, _, _, _, [], [], [], hW', ?_, ?_, rfl, hnx.frame _, fun h => by cases h⟩
  · exact trodAll_mk1 (shut_bool Try.underlying4 true)
  · exact trodAll_mk1 (shut_string Try.underlying9 hs)

theorem parseTells_holds : Rows.ParseTellsSaid :=
  OpenClaim.holds_of_wide 3 Try.f3 rfl rfl rfl rfl rfl rfl rfl ⟨rfl, rfl, rfl, rfl, rfl⟩ rfl rfl rfl rfl rfl (by kernel_rfl) Try.func3 (by kernel_rfl)
    (of_decide_eq_true (by kernel_rfl)) (by unfold Func.isWrapper; first | (rw [if_pos (by decide +kernel)]; kernel_rfl) | (rw [if_neg (by decide +kernel)]; exact ⟨rfl, rfl⟩))
    (fun os started H enc _ => parseTells_lifted os started H enc)
#print axioms parseTells_holds
end Go.Proofs.Ytfbpjadigmkkkaa
