/- The law's head, and ParseBack. -/
import Derived.Test.YtfbpjadigmkkkaaGet
import Derived.Test.YtfbpjadigmkkkaaUpP
import Derived.Lib.IfaceEq
namespace Go.Proofs.Ytfbpjadigmkkkaa
open Go.RowKit

theorem code_cmp : (Try.prog.info? 39).map (·.comparable) = some true := by kernel_rfl
theorem eq_code (w : World) (a b : Int) : (binOp .eql 25 (.iface 39 (.int .i64 a)) (.iface 39 (.int .i64 b))).run Try.prog w = .ok (.bool (a == b)) w :=
  Lib.run_eql_iface_int w a b Try.underlying25 code_cmp Try.underlying39

theorem get_up1 (k : Int) (w : World) (hm : w.cell? ⟨0, 0, none⟩ = some (.int .i64 k)) {R : Ending → World → Prop}
    (h : ∀ w' ad c, Step Nil0 w w' → w'.cell? ad = some (.string ⟨#[112]⟩) → w'.cell? ⟨(ad.add 5).block, (ad.add 5).off + 1, none⟩ = some (.string ⟨#[98]⟩) → R (.returned (.tuple #[.slice (some ad) 2 c, .nilIface])) w') :
    Calls Try.prog 6 #[.string ⟨#[60, 112, 62, 97, 60, 47, 112, 62, 98]⟩] w R := by
  refine parseGet_c [60, 112, 62, 97, 60, 47, 112, 62, 98] k w hm (by decide) (fun w1 v hs1 hv => ?_)
  rw [up1] at hv ⊢
  obtain ⟨A, c, rfl, hc, hmax⟩ := hv.form
  obtain ⟨ad, va, vk, hA, hn1, x0, _⟩ := at_tree hv 0 (by decide)
  obtain ⟨ad', va', vk', hA', hn2, _, x1, _⟩ := at_tree hv 1 (by decide)
  subst hA
  injection hA' with hA'
  subst hA'
  exact h w1 ad c hs1 x0 x1
theorem get_up2 (k : Int) (w : World) (hm : w.cell? ⟨0, 0, none⟩ = some (.int .i64 k)) {R : Ending → World → Prop}
    (h : ∀ w' A n c, Step Nil0 w w' → R (.returned (.tuple #[.slice A n c, .iface 39 (.int .i64 7)])) w') :
    Calls Try.prog 6 #[.string ⟨#[60, 112, 62]⟩] w R := by
  refine parseGet_c [60, 112, 62] k w hm (by decide) (fun w1 v hs1 hv => ?_)
  rw [up2] at hv ⊢
  obtain ⟨A, c, rfl, hc, hmax⟩ := hv.form
  exact h w1 A 0 c hs1

set_option maxHeartbeats 2000000 in
set_option maxRecDepth 100000 in
theorem up_c (k : Int) (w : World) (hm : w.cell? ⟨0, 0, none⟩ = some (.int .i64 k)) {R : Ending → World → Prop} (h : ∀ w', Step Nil0 w w' → R (.returned (.bool true)) w') :
    Calls Try.prog 5 #[] w R := by
  replace h := Lib.hid h
  have hq := fun w => eq_code w 7 7
  have t112 : ((⟨#[112]⟩ : Str).toList == (⟨#[112]⟩ : Str).toList) = true := by simp
  have t98 : ((⟨#[98]⟩ : Str).toList == (⟨#[98]⟩ : Str).toList) = true := by simp
  go_enter Try.func5, Try.ntmps5
  go_wp2_with (go_at_call 6; refine get_up1 k w hm ?_)
  intro w1 ad c hs1 x0 x1
  have hm1 := hs1.cell hm (fun e => e)
  go_wp2_with (go_at_call 6; refine get_up2 k _ hm1 ?_)
  intro w2 A n c' hs2
  have y0 := hs2.cell x0 (fun e => e)
  have y1 := hs2.cell x1 (fun e => e)
  have hst := hs1.then_ hs2
  go_wp2
  exact h.out w2 hst
end Go.Proofs.Ytfbpjadigmkkkaa
