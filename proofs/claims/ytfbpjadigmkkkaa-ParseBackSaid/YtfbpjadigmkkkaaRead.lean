/- What is read as data stands in memory as these texts say. -/
import Derived.Test.YtfbpjadigmkkkaaParsec
import Derived.ChangeArms
import Derived.DataReads
namespace Go.Proofs.Ytfbpjadigmkkkaa
open Go.RowKit

section
variable {H : Type} {enc : TypeId × Value → H} {P : Program} {w : World} {spare : Nat → Bool} {held : Bool}
theorem sl_of_trod {α : Type} [Rep α] (Good : α → Prop) {t e : TypeId} (ht : P.underlying t = some (.slice e)) (hc : P.cellsOf e = Rep.sz α) {fuel : Nat} {cs : List Value} {x : DataW H × List MemPlace}
    (h : DataW.trod enc P w 0 spare held fuel t cs = some x)
    (hel : ∀ n cs' x', fuel = n + 1 → DataW.trod enc P w 0 spare held n e cs' = some x' → ∃ y : α, Rep.c w Nil0 y cs' ∧ Good y) :
    ∃ v, cs = [v] ∧ ∃ xs : List α, Sl w Nil0 v xs ∧ ∀ y ∈ xs, Good y := by
  rcases DataW.trod_slice ht h with ⟨rfl, _⟩ | ⟨a, len, cap, elems, rest, n, hf, rfl, _, _, hl, hm, hlen, hg, _, _⟩
  · exact ⟨_, rfl, [], Sl.nil _ _, fun y hy => by cases hy⟩
  · have key : ∀ k, k ≤ len → ∃ (xs : List α) (ds : List Value), xs.length = k ∧ Reps w Nil0 xs ds ∧ (∀ j u, ds[j]? = some u → w.cell? (a.add j) = some u) ∧ ∀ y ∈ xs, Good y := by
      intro k
      induction k with
      | zero => exact fun _ => ⟨[], [], rfl, rfl, fun j u hu => by simp at hu, fun y hy => by cases hy⟩
      | succ k ih =>
        intro hk
        obtain ⟨xs, ds, h1, h2, h3, h4⟩ := ih (by omega)
        have h5 := hg k (by omega)
        rw [List.getElem?_eq_getElem (by omega : k < elems.length)] at h5
        obtain ⟨cs', h6, h7⟩ := Option.bind_eq_some_iff.1 h5
        obtain ⟨y, hy, hy2⟩ := hel n cs' _ hf h7
        obtain ⟨_, h8, h9⟩ := World.cells?_some h6
        refine ⟨xs ++ [y], ds ++ cs', by simp [h1], h2.append (.single hy), fun j u hu => ?_, fun z hz => ?_⟩
        · rcases Nat.lt_or_ge j ds.length with hj | hj
          · rw [List.getElem?_append_left hj] at hu
            exact h3 j u hu
          · rw [List.getElem?_append_right hj] at hu
            have hj2 : j - ds.length < P.cellsOf e := by rw [← h8]; exact (List.getElem?_eq_some_iff.1 hu).1
            have h10 := h9 _ hj2
            rw [hu, add_of_add, hc] at h10
            have h11 : k * Rep.sz α + (j - ds.length) = j := by rw [h2.len, h1] at hj ⊢; omega
            rw [h11] at h10
            exact h10
        · rcases List.mem_append.1 hz with hz | hz
          · exact h4 z hz
          · simp at hz; subst hz; exact hy2
    obtain ⟨xs, ds, h1, h2, h3, h4⟩ := key len (Nat.le_refl _)
    subst h1
    exact ⟨_, rfl, xs, ⟨some a, cap, ds, rfl, hl, hm, h2, fun _ => ⟨a, rfl, fun hh => hh, h3⟩⟩, h4⟩

def Attr.ok (a : Attr) : Prop := a.name.size ≤ maxLen ∧ a.value.size ≤ maxLen
end

theorem cells_attr : Try.prog.cellsOf 74 = 3 := by kernel_rfl
theorem cells_tree : Try.prog.cellsOf 38 = 5 := by kernel_rfl
theorem cells_str : Try.prog.cellsOf 9 = 1 := by kernel_rfl
theorem cells_bool : Try.prog.cellsOf 4 = 1 := by kernel_rfl
theorem cells_attrs : Try.prog.cellsOf 36 = 1 := by kernel_rfl
theorem cells_trees : Try.prog.cellsOf 23 = 1 := by kernel_rfl

section
variable {H : Type} {enc : TypeId × Value → H} {w : World} {spare : Nat → Bool} {held : Bool}
theorem attr_of_trod {fuel : Nat} {cs : List Value} {x : DataW H × List MemPlace} (h : DataW.trod enc Try.prog w 0 spare held fuel 74 cs = some x) :
    ∃ y : Attr, Rep.c w Nil0 y cs ∧ y.ok := by
  obtain ⟨xs, n, hf, rfl, hl, hxl, hg⟩ := DataW.trod_struct Try.underlying74 h
  rw [cells_attr] at hl
  obtain ⟨c0, c1, c2, rfl⟩ : ∃ a b c, cs = [a, b, c] := by
    match cs, hl with
    | [a, b, c], _ => exact ⟨a, b, c, rfl⟩
  obtain ⟨x0, x1, x2, rfl⟩ : ∃ a b c, xs = [a, b, c] := by
    match xs, hxl with
    | [a, b, c], _ => exact ⟨a, b, c, rfl⟩
  have g0 : DataW.trod enc Try.prog w 0 spare held n 9 [c0] = some x0 := by simpa [cells_str] using hg 0 _ rfl
  have g1 : DataW.trod enc Try.prog w 0 spare held n 9 [c1] = some x1 := by simpa [cells_str] using hg 1 _ rfl
  have g2 : DataW.trod enc Try.prog w 0 spare held n 4 [c2] = some x2 := by simpa [cells_bool] using hg 2 _ rfl
  obtain ⟨s0, e0, _, z0⟩ := DataW.trod_string Try.underlying9 g0
  obtain ⟨s1, e1, _, z1⟩ := DataW.trod_string Try.underlying9 g1
  obtain ⟨b2, e2, _⟩ := DataW.trod_bool Try.underlying4 g2
  simp at e0 e1 e2
  subst e0 e1 e2
  exact ⟨⟨s0, s1, b2⟩, rfl, z0, z1⟩

theorem tree_of_trod : ∀ (fuel : Nat) (cs : List Value) (x : DataW H × List MemPlace), DataW.trod enc Try.prog w 0 spare held fuel 38 cs = some x → ∃ y : Tree, Rep.c w Nil0 y cs ∧ y.small maxLen := by
  intro fuel
  induction fuel using Nat.strongRecOn with
  | ind fuel ih =>
    intro cs x h
    obtain ⟨xs, n, hf, rfl, hl, hxl, hg⟩ := DataW.trod_struct Try.underlying38 h
    rw [cells_tree] at hl
    obtain ⟨c0, c1, c2, c3, c4, rfl⟩ : ∃ a b c d e, cs = [a, b, c, d, e] := by
      match cs, hl with
      | [a, b, c, d, e], _ => exact ⟨a, b, c, d, e, rfl⟩
    obtain ⟨x0, x1, x2, x3, x4, rfl⟩ : ∃ a b c d e, xs = [a, b, c, d, e] := by
      match xs, hxl with
      | [a, b, c, d, e], _ => exact ⟨a, b, c, d, e, rfl⟩
    have g0 : DataW.trod enc Try.prog w 0 spare held n 9 [c0] = some x0 := by simpa [cells_str] using hg 0 _ rfl
    have g1 : DataW.trod enc Try.prog w 0 spare held n 9 [c1] = some x1 := by simpa [cells_str] using hg 1 _ rfl
    have g2 : DataW.trod enc Try.prog w 0 spare held n 9 [c2] = some x2 := by simpa [cells_str] using hg 2 _ rfl
    have g3 : DataW.trod enc Try.prog w 0 spare held n 36 [c3] = some x3 := by simpa [cells_attrs] using hg 3 _ rfl
    have g4 : DataW.trod enc Try.prog w 0 spare held n 23 [c4] = some x4 := by simpa [cells_trees] using hg 4 _ rfl
    obtain ⟨s0, e0, _, z0⟩ := DataW.trod_string Try.underlying9 g0
    obtain ⟨s1, e1, _, z1⟩ := DataW.trod_string Try.underlying9 g1
    obtain ⟨s2, e2, _, z2⟩ := DataW.trod_string Try.underlying9 g2
    obtain ⟨va, e3, aq, ha, hsa⟩ := sl_of_trod (α := Attr) Attr.ok Try.underlying36 cells_attr g3 (fun m cs' x' _ h' => attr_of_trod h')
    obtain ⟨vk, e4, ks, hk, hsk⟩ := sl_of_trod (α := Tree) (fun t => t.small maxLen) Try.underlying23 cells_tree g4 (fun m cs' x' hm h' => ih m (by omega) cs' x' h')
    simp at e0 e1 e2 e3 e4
    subst e0 e1 e2 e3 e4
    refine ⟨⟨s0, s1, s2, aq, ks⟩, Tree.mk_ (x := ⟨s0, s1, s2, aq, ks⟩) ha hk, ?_⟩
    rw [Tree.small_iff]
    exact ⟨z0, z1, z2, hsa, hsk⟩
theorem trees_of_trod {v : Value} {d : DataW H} {ps : List MemPlace} (h : DataW.Trod enc Try.prog w 0 spare held 23 v d ps) (hv : v.cells.toList = [v]) :
    ∃ ts : List Tree, Sl w Nil0 v ts ∧ ∀ t ∈ ts, t.small maxLen := by
  obtain ⟨fuel, h⟩ := h
  obtain ⟨v', e, ts, h1, h2⟩ := sl_of_trod (α := Tree) (fun t => t.small maxLen) Try.underlying23 cells_tree h (fun m cs' x' _ h' => tree_of_trod m cs' x' h')
  rw [hv] at e
  injection e with e
  subst e
  exact ⟨ts, h1, h2⟩
end
end Go.Proofs.Ytfbpjadigmkkkaa
