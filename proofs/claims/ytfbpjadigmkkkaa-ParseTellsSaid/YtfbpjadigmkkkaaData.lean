/- The program's data as Lean's: attributes, trees, and how they stand in memory. -/
import Derived.Test.YtfbpjadigmkkkaaBase
namespace Go.Proofs.Ytfbpjadigmkkkaa
open Go.RowKit

structure Attr where
  name : Str
  value : Str
  static : Bool
  deriving DecidableEq

structure Tree where
  tag : Str
  text : Str
  key : Str
  attrs : List Attr
  kids : List Tree

instance : Inhabited Attr := ⟨⟨⟨#[]⟩, ⟨#[]⟩, false⟩⟩
instance : Inhabited Tree := ⟨⟨⟨#[]⟩, ⟨#[]⟩, ⟨#[]⟩, [], []⟩⟩

instance : Rep Attr where
  sz := 3
  pos := by omega
  c := fun _ _ x cs => cs = [.string x.name, .string x.value, .bool x.static]
  len := by intro w M x cs h; subst h; rfl
  one := by
    intro w M x cs h u hu
    subst h
    simp only [List.mem_cons, List.not_mem_nil, or_false] at hu
    rcases hu with rfl | rfl | rfl <;> rfl
  step := fun _ _ h => h

instance : Rep Int where
  sz := 1
  pos := by omega
  c := fun _ _ x cs => cs = [.int .i64 x]
  len := by intro w M x cs h; subst h; rfl
  one := by
    intro w M x cs h u hu
    subst h
    simp only [List.mem_cons, List.not_mem_nil, or_false] at hu
    subst hu; rfl
  step := fun _ _ h => h

instance : Rep UInt8 where
  sz := 1
  pos := by omega
  c := fun _ _ x cs => cs = [.int .u8 (x.toNat : Int)]
  len := by intro w M x cs h; subst h; rfl
  one := by
    intro w M x cs h u hu
    subst h
    simp only [List.mem_cons, List.not_mem_nil, or_false] at hu
    subst hu; rfl
  step := fun _ _ h => h

mutual
def Tree.cells (w : World) (M : Nat → Prop) : Tree → List Value → Prop
  | ⟨tag, text, key, attrs, kids⟩, cs => ∃ va A c ks, cs = [.string tag, .string text, .string key, va, .slice A kids.length c] ∧ Sl w M va attrs ∧
      kids.length ≤ c ∧ c ≤ maxLen ∧ treesCells w M kids ks ∧ Lies w M A ks
def treesCells (w : World) (M : Nat → Prop) : List Tree → List Value → Prop
  | [], cs => cs = []
  | t :: ts, cs => ∃ c1 c2, cs = c1 ++ c2 ∧ Tree.cells w M t c1 ∧ treesCells w M ts c2
end

theorem Tree.cells_len {w : World} {M : Nat → Prop} {x : Tree} {cs : List Value} (h : Tree.cells w M x cs) : cs.length = 5 := by
  obtain ⟨tag, text, key, attrs, kids⟩ := x
  unfold Tree.cells at h
  obtain ⟨va, A, c, ks, rfl, _⟩ := h
  rfl
theorem Tree.cells_one {w : World} {M : Nat → Prop} {x : Tree} {cs : List Value} (h : Tree.cells w M x cs) : ∀ u ∈ cs, u.oneCell' = true := by
  obtain ⟨tag, text, key, attrs, kids⟩ := x
  unfold Tree.cells at h
  obtain ⟨va, A, c, ks, rfl, hv, _⟩ := h
  obtain ⟨A', c', rfl, _⟩ := hv.form
  intro u hu
  simp only [List.mem_cons, List.not_mem_nil, or_false] at hu
  rcases hu with rfl | rfl | rfl | rfl | rfl <;> rfl

mutual
theorem Tree.cells_step {w w' : World} {M M' : Nat → Prop} (hb : ∀ b, b < w.heap.size → ¬ M b → w'.heap[b]? = w.heap[b]?) (hM : ∀ b, b < w.heap.size → M' b → M b) :
    ∀ (x : Tree) (cs : List Value), Tree.cells w M x cs → Tree.cells w' M' x cs
  | ⟨tag, text, key, attrs, kids⟩, cs, h => by
    unfold Tree.cells at h ⊢
    obtain ⟨va, A, c, ks, e, h1, h2, h3, h4, h5⟩ := h
    exact ⟨va, A, c, ks, e, h1.step0 hb hM, h2, h3, treesCells_step hb hM kids ks h4, h5.step hb hM⟩
theorem treesCells_step {w w' : World} {M M' : Nat → Prop} (hb : ∀ b, b < w.heap.size → ¬ M b → w'.heap[b]? = w.heap[b]?) (hM : ∀ b, b < w.heap.size → M' b → M b) :
    ∀ (xs : List Tree) (cs : List Value), treesCells w M xs cs → treesCells w' M' xs cs
  | [], cs, h => by unfold treesCells at h ⊢; exact h
  | t :: ts, cs, h => by
    unfold treesCells at h ⊢
    obtain ⟨c1, c2, e, h1, h2⟩ := h
    exact ⟨c1, c2, e, Tree.cells_step hb hM t c1 h1, treesCells_step hb hM ts c2 h2⟩
end

instance : Rep Tree where
  sz := 5
  pos := by omega
  c := Tree.cells
  len := Tree.cells_len
  one := Tree.cells_one
  step := fun hb hM h => Tree.cells_step hb hM _ _ h

theorem treesCells_iff {w : World} {M : Nat → Prop} : ∀ (xs : List Tree) (cs : List Value), treesCells w M xs cs ↔ Reps w M xs cs
  | [], cs => by unfold treesCells Reps; exact Iff.rfl
  | t :: ts, cs => by
    unfold treesCells Reps
    constructor
    · rintro ⟨c1, c2, e, h1, h2⟩
      exact ⟨c1, c2, e, h1, (treesCells_iff ts c2).1 h2⟩
    · rintro ⟨c1, c2, e, h1, h2⟩
      exact ⟨c1, c2, e, h1, (treesCells_iff ts c2).2 h2⟩

theorem Tree.open_ {w : World} {M : Nat → Prop} {x : Tree} {cs : List Value} (h : Rep.c w M x cs) :
    ∃ va vk, cs = [.string x.tag, .string x.text, .string x.key, va, vk] ∧ Sl w M va x.attrs ∧ Sl w M vk x.kids := by
  obtain ⟨tag, text, key, attrs, kids⟩ := x
  have h' : Tree.cells w M ⟨tag, text, key, attrs, kids⟩ cs := h
  unfold Tree.cells at h'
  obtain ⟨va, A, c, ks, e, h1, h2, h3, h4, h5⟩ := h'
  exact ⟨va, _, e, h1, A, c, ks, rfl, h2, h3, (treesCells_iff _ _).1 h4, h5⟩
theorem Tree.mk_ {w : World} {M : Nat → Prop} {x : Tree} {va vk : Value} (h1 : Sl w M va x.attrs) (h2 : Sl w M vk x.kids) :
    Rep.c w M x [.string x.tag, .string x.text, .string x.key, va, vk] := by
  obtain ⟨tag, text, key, attrs, kids⟩ := x
  obtain ⟨A, c, ks, rfl, h3, h4, h5, h6⟩ := h2
  show Tree.cells w M ⟨tag, text, key, attrs, kids⟩ _
  unfold Tree.cells
  exact ⟨va, A, c, ks, rfl, h1, h3, h4, (treesCells_iff _ _).2 h5, h6⟩

/-- Element i of a slice of attributes, cell by cell. -/
theorem at_attr {w : World} {M : Nat → Prop} {A : Option Addr} {n c : Nat} {xs : List Attr} (h : Sl w M (.slice A n c) xs) (i : Nat) (hi : i < xs.length) :
    ∃ ad, A = some ad ∧ ¬ M ad.block ∧ w.cell? (ad.add (i * 3)) = some (.string xs[i].name) ∧ w.cell? ⟨(ad.add (i * 3)).block, (ad.add (i * 3)).off + 1, none⟩ = some (.string xs[i].value) ∧
      w.cell? ⟨(ad.add (i * 3)).block, (ad.add (i * 3)).off + 2, none⟩ = some (.bool xs[i].static) := by
  obtain ⟨ad, cs, e, hn, hr, hc⟩ := h.at_ i hi
  have hr' : cs = [.string xs[i].name, .string xs[i].value, .bool xs[i].static] := hr
  subst hr'
  have hc' : ∀ j u, [Value.string xs[i].name, .string xs[i].value, .bool xs[i].static][j]? = some u → w.cell? (ad.add (i * 3 + j)) = some u := hc
  refine ⟨ad, e, hn, hc' 0 _ rfl, ?_, ?_⟩
  · rw [← add_field _ _ 1 (by omega)]; exact hc' 1 _ rfl
  · rw [← add_field _ _ 2 (by omega)]; exact hc' 2 _ rfl
theorem at_tree {w : World} {M : Nat → Prop} {A : Option Addr} {n c : Nat} {xs : List Tree} (h : Sl w M (.slice A n c) xs) (i : Nat) (hi : i < xs.length) :
    ∃ ad va vk, A = some ad ∧ ¬ M ad.block ∧ w.cell? (ad.add (i * 5)) = some (.string xs[i].tag) ∧ w.cell? ⟨(ad.add (i * 5)).block, (ad.add (i * 5)).off + 1, none⟩ = some (.string xs[i].text) ∧
      w.cell? ⟨(ad.add (i * 5)).block, (ad.add (i * 5)).off + 2, none⟩ = some (.string xs[i].key) ∧ w.cell? ⟨(ad.add (i * 5)).block, (ad.add (i * 5)).off + 3, none⟩ = some va ∧
      w.cell? ⟨(ad.add (i * 5)).block, (ad.add (i * 5)).off + 4, none⟩ = some vk ∧ Sl w M va xs[i].attrs ∧ Sl w M vk xs[i].kids := by
  obtain ⟨ad, cs, e, hn, hr, hc⟩ := h.at_ i hi
  obtain ⟨va, vk, rfl, h1, h2⟩ := Tree.open_ hr
  have hc' : ∀ j u, [Value.string xs[i].tag, .string xs[i].text, .string xs[i].key, va, vk][j]? = some u → w.cell? (ad.add (i * 5 + j)) = some u := hc
  refine ⟨ad, va, vk, e, hn, hc' 0 _ rfl, ?_, ?_, ?_, ?_, h1, h2⟩
  · rw [← add_field _ _ 1 (by omega)]; exact hc' 1 _ rfl
  · rw [← add_field _ _ 2 (by omega)]; exact hc' 2 _ rfl
  · rw [← add_field _ _ 3 (by omega)]; exact hc' 3 _ rfl
  · rw [← add_field _ _ 4 (by omega)]; exact hc' 4 _ rfl
theorem at_int {w : World} {M : Nat → Prop} {A : Option Addr} {n c : Nat} {xs : List Int} (h : Sl w M (.slice A n c) xs) (i : Nat) (hi : i < xs.length) :
    ∃ ad, A = some ad ∧ ¬ M ad.block ∧ w.cell? (ad.add i) = some (.int .i64 xs[i]) := by
  obtain ⟨ad, cs, e, hn, hr, hc⟩ := h.at_ i hi
  have hr' : cs = [.int .i64 xs[i]] := hr
  subst hr'
  have hc' : ∀ j u, [Value.int .i64 xs[i]][j]? = some u → w.cell? (ad.add (i * 1 + j)) = some u := hc
  have := hc' 0 _ rfl
  rw [Nat.mul_one, Nat.add_zero] at this
  exact ⟨ad, e, hn, this⟩
end Go.Proofs.Ytfbpjadigmkkkaa
