/- Words for memory: a step of the world that turns no block outside of a set; data that stand in memory outside of a set. -/
import Derived.Below
import Derived.Laws.OwnMore
import Derived.Deep.AppendLies
import Derived.Deep.Draws
import Derived.Maps.AppendAt
import Derived.RegionTactic
import Derived.OwnWalk
namespace Go.Proofs.Ytfbpjadigmkkkaa
open Go.RowKit

abbrev Str := ByteArray

/-- Of the blocks that were there only those of M may have turned. -/
structure Step (M : Nat → Prop) (w w' : World) : Prop where
  os : w'.os = w.os
  tape : w'.tape = w.tape
  output : w'.output = w.output
  size : w.heap.size ≤ w'.heap.size
  block : ∀ k, k < w.heap.size → ¬ M k → w'.heap[k]? = w.heap[k]?

def Nil0 : Nat → Prop := fun _ => False
def One (g : Nat) : Nat → Prop := fun k => k = g
def Or2 (M N : Nat → Prop) : Nat → Prop := fun k => M k ∨ N k

namespace Step
variable {M M' : Nat → Prop} {w w1 w2 : World}
theorem refl (M : Nat → Prop) (w : World) : Step M w w := ⟨rfl, rfl, rfl, Nat.le_refl _, fun _ _ _ => rfl⟩
theorem trans (h : Step M w w1) (k : Step M' w1 w2) (hM : ∀ b, b < w.heap.size → M' b → M b) : Step M w w2 :=
  ⟨k.os.trans h.os, k.tape.trans h.tape, k.output.trans h.output, Nat.le_trans h.size k.size,
   fun b hb hn => (k.block b (Nat.lt_of_lt_of_le hb h.size) (fun hm => hn (hM b hb hm))).trans (h.block b hb hn)⟩
theorem then_ (h : Step M w w1) (k : Step M w1 w2) : Step M w w2 := h.trans k (fun _ _ hm => hm)
theorem mono (h : Step M w w1) (hM : ∀ b, b < w.heap.size → M b → M' b) : Step M' w w1 :=
  ⟨h.os, h.tape, h.output, h.size, fun b hb hn => h.block b hb (fun hm => hn (hM b hb hm))⟩
theorem drew (h : Step M w w1) : Step M w w1.drew := ⟨h.os, h.tape, h.output, h.size, h.block⟩
theorem drewN (h : Step M w w1) (n : Nat) : Step M w (w1.drewN n) := ⟨h.os, h.tape, h.output, h.size, h.block⟩
theorem alloc (h : Step M w w1) (o : Obj) : Step M w (w1.alloc o) :=
  h.trans (M' := M) ⟨rfl, rfl, rfl, by simp, fun k hk _ => Below.heap_alloc _ _ _ hk⟩ (fun _ _ hm => hm)
theorem setCell (h : Step M w w1) {p : Addr} (u : Value) (hp : p.block < w.heap.size → M p.block) : Step M w (w1.setCell p u) :=
  ⟨h.os, h.tape, h.output, by simpa [World.setCell] using h.size,
   fun k hk hn => (Below.heap_setCell _ _ _ _ (fun e => hn (by subst e; exact hp hk))).trans (h.block k hk hn)⟩
theorem below {B : Nat} (h : Step M w w1) (hM : ∀ b, M b → B ≤ b) (hB : B ≤ w.heap.size) : Below B w w1 :=
  ⟨h.os, h.tape, h.output, h.size, fun k hk => h.block k (Nat.lt_of_lt_of_le hk hB) (fun hm => by have := hM k hm; omega)⟩
theorem of_below (h : Below w.heap.size w w1) : Step M w w1 := ⟨h.os, h.tape, h.output, h.size, fun k hk _ => h.block k hk⟩
theorem of_belowB {B : Nat} (h : Below B w w1) (hM : ∀ b, b < w.heap.size → B ≤ b → M b) : Step M w w1 :=
  ⟨h.os, h.tape, h.output, h.size, fun k hk hn => by
    rcases Nat.lt_or_ge k B with hb | hb
    · exact h.block k hb
    · exact absurd (hM k hk hb) hn⟩
theorem grown (h : Step M w w1) {row : Option Nat} (hg : w1.grownBy w2 row) (hr : ∀ k, row = some k → k < w.heap.size → M k) : Step M w w2 :=
  ⟨hg.os.trans h.os, hg.tape.trans h.tape, hg.output.trans h.output, Nat.le_trans h.size hg.size,
   fun k hk hn => (hg.block k (Nat.lt_of_lt_of_le hk h.size) (fun e => hn (hr k e.symm hk))).trans (h.block k hk hn)⟩
theorem cell (h : Step M w w1) {a : Addr} {v : Value} (hc : w.cell? a = some v) (hn : ¬ M a.block) : w1.cell? a = some v :=
  (World.cell?_of_block (h.block a.block (World.block_lt_of_cell? w a hc) hn)).trans hc
theorem heap (h : Step M w w1) {b : Nat} {o : Obj} (hc : w.heap[b]? = some o) (hn : ¬ M b) : w1.heap[b]? = some o :=
  (h.block b (Array.getElem?_eq_some_iff.1 hc).1 hn).trans hc
end Step

/-- From w, where M may turn, to w', where M' may: of what was there M' has no more than M. -/
structure Up (w : World) (M : Nat → Prop) (w' : World) (M' : Nat → Prop) : Prop where
  step : Step M w w'
  ext : ∀ b, b < w.heap.size → M' b → M b
namespace Up
variable {M M1 M2 : Nat → Prop} {w w1 w2 : World}
theorem refl (w : World) (M : Nat → Prop) : Up w M w M := ⟨.refl _ _, fun _ _ h => h⟩
theorem trans (h : Up w M w1 M1) (k : Up w1 M1 w2 M2) : Up w M w2 M2 :=
  ⟨h.step.trans k.step h.ext, fun b hb hm => h.ext b hb (k.ext b (Nat.lt_of_lt_of_le hb h.step.size) hm)⟩
/-- A step that turns nothing, while M may turn. -/
theorem still (h : Step Nil0 w w1) : Up w M w1 M := ⟨h.mono (fun _ _ hm => hm.elim), fun _ _ hm => hm⟩
theorem below (h : Up w M w1 M1) {B : Nat} (hM : ∀ b, M b → B ≤ b) (hB : B ≤ w.heap.size) : Below B w w1 := h.step.below hM hB
theorem drewN (h : Up w M w1 M1) (n : Nat) : Up w M (w1.drewN n) M1 := ⟨h.step.drewN n, h.ext⟩
theorem drew (h : Up w M w1 M1) : Up w M w1.drew M1 := ⟨h.step.drew, h.ext⟩
theorem alloc (h : Up w M w1 M1) (o : Obj) : Up w M (w1.alloc o) M1 := ⟨h.step.alloc o, h.ext⟩
end Up

theorem lt_of_heap {w : World} {b : Nat} {o : Obj} (hc : w.heap[b]? = some o) : b < w.heap.size := (Array.getElem?_eq_some_iff.1 hc).1

/-! ### A block that is known whole -/
def Blk (w : World) (g : Nat) (t : TypeId) (cs : Array Value) : Prop := w.heap[g]? = some (.cells cs t (0, 0))
section
variable {w w' : World} {g : Nat} {t : TypeId} {cs : Array Value}
theorem Blk.lt (h : Blk w g t cs) : g < w.heap.size := lt_of_heap h
theorem Blk.cell (h : Blk w g t cs) (i : Nat) : w.cell? ⟨g, i, none⟩ = cs[i]? := cell_of_row w g i cs t (0, 0) h
theorem Blk.frozen (h : Blk w g t cs) (i : Nat) : w.frozen? ⟨g, i, none⟩ = false := by
  unfold Blk at h
  simp [World.frozen?, h]
theorem Blk.new (w : World) (t : TypeId) (cs : Array Value) : Blk (w.alloc (.cells cs t)) w.heap.size t cs := heap_alloc_new w _
theorem Blk.drew (h : Blk w g t cs) : Blk w.drew g t cs := h
theorem Blk.drewN (h : Blk w g t cs) (n : Nat) : Blk (w.drewN n) g t cs := h
theorem Blk.alloc (h : Blk w g t cs) (o : Obj) : Blk (w.alloc o) g t cs := (Below.heap_alloc w o g h.lt).trans h
theorem Blk.set_ (h : Blk w g t cs) (i : Nat) (u : Value) : Blk (w.setCell ⟨g, i, none⟩ u) g t (cs.setIfInBounds i u) := by
  unfold Blk at h ⊢
  simp [World.setCell, Array.getElem?_modify, h]
theorem Blk.far (h : Blk w g t cs) {p : Addr} (hp : g ≠ p.block) (u : Value) : Blk (w.setCell p u) g t cs := (Below.heap_setCell w p u g hp).trans h
theorem Blk.step {M : Nat → Prop} (h : Blk w g t cs) (k : Step M w w') (hn : ¬ M g) : Blk w' g t cs := k.heap h hn
theorem Blk.grown {row : Option Nat} (h : Blk w g t cs) (hb : w.grownBy w' row) (hg : some g ≠ row) : Blk w' g t cs := (hb.block g h.lt hg).trans h
theorem Blk.ne_ {g' : Nat} {t' : TypeId} {cs' : Array Value} (h : Blk w g t cs) (h' : Blk w g' t' cs') (hne : t ≠ t') : g ≠ g' := by
  rintro rfl
  unfold Blk at h h'
  rw [h] at h'
  injection h' with h'
  injection h' with _ ht
  exact hne ht
end

/-! ### Data in memory, outside of M -/
class Rep (α : Type) where
  sz : Nat
  pos : 0 < sz
  c : World → (Nat → Prop) → α → List Value → Prop
  len : ∀ {w M x cs}, c w M x cs → cs.length = sz
  one : ∀ {w M x cs}, c w M x cs → ∀ u ∈ cs, u.oneCell' = true
  step : ∀ {w w' : World} {M M' : Nat → Prop} {x cs}, (∀ b, b < w.heap.size → ¬ M b → w'.heap[b]? = w.heap[b]?) → (∀ b, b < w.heap.size → M' b → M b) → c w M x cs → c w' M' x cs

/-- The cells of a row's elements, one behind the other. -/
def Reps {α : Type} [Rep α] (w : World) (M : Nat → Prop) : List α → List Value → Prop
  | [], cs => cs = []
  | x :: xs, cs => ∃ c1 c2, cs = c1 ++ c2 ∧ Rep.c w M x c1 ∧ Reps w M xs c2

section
variable {α : Type} [Rep α] {w w' : World} {M M' : Nat → Prop}
theorem Reps.len {xs : List α} {cs : List Value} (h : Reps w M xs cs) : cs.length = xs.length * Rep.sz α := by
  induction xs generalizing cs with
  | nil => subst h; simp
  | cons x xs ih =>
    obtain ⟨c1, c2, rfl, h1, h2⟩ := h
    rw [List.length_append, Rep.len h1, ih h2, List.length_cons, Nat.add_mul, Nat.one_mul, Nat.add_comm]
theorem Reps.one {xs : List α} {cs : List Value} (h : Reps w M xs cs) : ∀ u ∈ cs, u.oneCell' = true := by
  induction xs generalizing cs with
  | nil => subst h; simp
  | cons x xs ih =>
    obtain ⟨c1, c2, rfl, h1, h2⟩ := h
    intro u hu
    rcases List.mem_append.1 hu with hu | hu
    · exact Rep.one h1 u hu
    · exact ih h2 u hu
theorem Reps.step {xs : List α} {cs : List Value} (hb : ∀ b, b < w.heap.size → ¬ M b → w'.heap[b]? = w.heap[b]?) (hM : ∀ b, b < w.heap.size → M' b → M b)
    (h : Reps w M xs cs) : Reps w' M' xs cs := by
  induction xs generalizing cs with
  | nil => exact h
  | cons x xs ih =>
    obtain ⟨c1, c2, rfl, h1, h2⟩ := h
    exact ⟨c1, c2, rfl, Rep.step hb hM h1, ih h2⟩
theorem Reps.append {xs ys : List α} {cs ds : List Value} (h : Reps w M xs cs) (k : Reps w M ys ds) : Reps w M (xs ++ ys) (cs ++ ds) := by
  induction xs generalizing cs with
  | nil => subst h; exact k
  | cons x xs ih =>
    obtain ⟨c1, c2, rfl, h1, h2⟩ := h
    exact ⟨c1, c2 ++ ds, by simp, h1, ih h2⟩
theorem Reps.single {x : α} {cs : List Value} (h : Rep.c w M x cs) : Reps w M [x] cs := ⟨cs, [], by simp, h, rfl⟩
theorem Reps.take {xs : List α} {cs : List Value} (h : Reps w M xs cs) (n : Nat) : Reps w M (xs.take n) (cs.take (n * Rep.sz α)) := by
  induction xs generalizing cs n with
  | nil => subst h; cases n <;> simp [Reps]
  | cons x xs ih =>
    obtain ⟨c1, c2, rfl, h1, h2⟩ := h
    cases n with
    | zero => simp [Reps]
    | succ n =>
      refine ⟨c1, c2.take (n * Rep.sz α), ?_, h1, ih h2 n⟩
      rw [List.take_append, Rep.len h1, List.take_of_length_le (by rw [Rep.len h1, Nat.add_mul]; omega)]
      congr 2
      rw [Nat.add_mul]; omega
theorem Reps.drop {xs : List α} {cs : List Value} (h : Reps w M xs cs) (n : Nat) : Reps w M (xs.drop n) (cs.drop (n * Rep.sz α)) := by
  induction xs generalizing cs n with
  | nil => subst h; cases n <;> simp [Reps]
  | cons x xs ih =>
    obtain ⟨c1, c2, rfl, h1, h2⟩ := h
    cases n with
    | zero =>
      rw [Nat.zero_mul, List.drop_zero, List.drop_zero]
      exact ⟨c1, c2, rfl, h1, h2⟩
    | succ n =>
      have e : (c1 ++ c2).drop ((n + 1) * Rep.sz α) = c2.drop (n * Rep.sz α) := by
        rw [List.drop_append, Rep.len h1, List.drop_of_length_le (by rw [Rep.len h1, Nat.add_mul]; omega), List.nil_append]
        congr 1
        rw [Nat.add_mul]; omega
      rw [e]
      simpa using ih h2 n
theorem Reps.at_ {xs : List α} {cs : List Value} (h : Reps w M xs cs) (i : Nat) (hi : i < xs.length) :
    ∃ c, Rep.c w M xs[i] c ∧ ∀ j u, c[j]? = some u → cs[i * Rep.sz α + j]? = some u := by
  induction xs generalizing cs i with
  | nil => exact absurd hi (by simp)
  | cons x xs ih =>
    obtain ⟨c1, c2, rfl, h1, h2⟩ := h
    cases i with
    | zero =>
      refine ⟨c1, h1, fun j u hu => ?_⟩
      have hj : j < c1.length := (List.getElem?_eq_some_iff.1 hu).1
      rw [Nat.zero_mul, Nat.zero_add, List.getElem?_append_left hj]; exact hu
    | succ i =>
      obtain ⟨c, hc, hg⟩ := ih h2 i (by simpa using hi)
      refine ⟨c, hc, fun j u hu => ?_⟩
      rw [List.getElem?_append_right (by rw [Rep.len h1, Nat.add_mul]; omega), Rep.len h1]
      have := hg j u hu
      rwa [show (i + 1) * Rep.sz α + j - Rep.sz α = i * Rep.sz α + j from by rw [Nat.add_mul]; omega]
end

/-- The cells cs lie at A, outside of M. -/
def Lies (w : World) (M : Nat → Prop) (A : Option Addr) (cs : List Value) : Prop :=
  0 < cs.length → ∃ ad, A = some ad ∧ ¬ M ad.block ∧ ∀ j u, cs[j]? = some u → w.cell? (ad.add j) = some u

theorem block_of_add (a : Addr) (n : Nat) : (a.add n).block = a.block := by unfold Addr.add; split <;> rfl
theorem add_of_add (a : Addr) (i j : Nat) : (a.add i).add j = a.add (i + j) := by
  unfold Addr.add
  by_cases hi : i = 0 <;> by_cases hj : j = 0 <;> simp [hi, hj, Nat.add_assoc]
theorem add_field (a : Addr) (i j : Nat) (hj : 0 < j) : a.add (i + j) = ⟨(a.add i).block, (a.add i).off + j, none⟩ := by
  rw [← add_of_add]
  show (if j = 0 then a.add i else _) = _
  rw [if_neg (by omega)]

section
variable {w w' : World} {M M' : Nat → Prop} {A : Option Addr} {cs : List Value}
theorem Lies.step (hb : ∀ b, b < w.heap.size → ¬ M b → w'.heap[b]? = w.heap[b]?) (hM : ∀ b, b < w.heap.size → M' b → M b)
    (h : Lies w M A cs) : Lies w' M' A cs := by
  intro h0
  obtain ⟨ad, e, hn, hc⟩ := h h0
  obtain ⟨u, hu⟩ : ∃ u, cs[0]? = some u := ⟨cs[0], List.getElem?_eq_getElem h0⟩
  have hl : ad.block < w.heap.size := by have := World.block_lt_of_cell? w _ (hc 0 u hu); rwa [block_of_add] at this
  refine ⟨ad, e, fun hm => hn (hM _ hl hm), fun j v hv => ?_⟩
  rw [World.cell?_of_block (w := w) (by rw [block_of_add]; exact hb _ hl hn)]
  exact hc j v hv
theorem Lies.nil : Lies w M A [] := fun h => absurd h (by simp)
end

/-- A slice that reads as xs, its memory outside of M. -/
def Sl {α : Type} [Rep α] (w : World) (M : Nat → Prop) (v : Value) (xs : List α) : Prop :=
  ∃ A c cs, v = .slice A xs.length c ∧ xs.length ≤ c ∧ c ≤ maxLen ∧ Reps w M xs cs ∧ Lies w M A cs

section
variable {α : Type} [Rep α] {w w' : World} {M M' : Nat → Prop} {v : Value} {xs : List α}
theorem Sl.step0 (hb : ∀ b, b < w.heap.size → ¬ M b → w'.heap[b]? = w.heap[b]?) (hM : ∀ b, b < w.heap.size → M' b → M b) (h : Sl w M v xs) : Sl w' M' v xs := by
  obtain ⟨A, c, cs, e, h1, h1b, h2, h3⟩ := h
  exact ⟨A, c, cs, e, h1, h1b, h2.step hb hM, h3.step hb hM⟩
theorem Sl.step (h : Sl w M v xs) (k : Step M w w') : Sl w' M v xs := h.step0 k.block (fun _ _ hm => hm)
theorem Sl.to (h : Sl w M v xs) (k : Step M w w') (hM : ∀ b, b < w.heap.size → M' b → M b) : Sl w' M' v xs := h.step0 k.block hM
theorem Sl.up (h : Sl w M v xs) (k : Up w M w' M') : Sl w' M' v xs := h.step0 k.step.block k.ext
theorem Sl.nil (w : World) (M : Nat → Prop) : Sl w M (.slice none 0 0) ([] : List α) := ⟨none, 0, [], rfl, Nat.le_refl _, Nat.zero_le _, rfl, .nil⟩
theorem Sl.form (h : Sl w M v xs) : ∃ A c, v = .slice A xs.length c ∧ xs.length ≤ c ∧ c ≤ maxLen := by
  obtain ⟨A, c, cs, e, h1, h2, _⟩ := h
  exact ⟨A, c, e, h1, h2⟩
theorem Sl.at_ {A : Option Addr} {n c : Nat} (h : Sl w M (.slice A n c) xs) (i : Nat) (hi : i < xs.length) :
    ∃ ad cs, A = some ad ∧ ¬ M ad.block ∧ Rep.c w M xs[i] cs ∧ ∀ j u, cs[j]? = some u → w.cell? (ad.add (i * Rep.sz α + j)) = some u := by
  obtain ⟨A', c', cs, e, h1, _, h2, h3⟩ := h
  injection e with eA _ _
  subst eA
  have hp : 0 < Rep.sz α := Rep.pos
  have hl : 0 < cs.length := by rw [h2.len]; exact Nat.mul_pos (by omega) hp
  obtain ⟨ad, e, hn, hc⟩ := h3 hl
  obtain ⟨c1, hr, hg⟩ := h2.at_ i hi
  exact ⟨ad, c1, e, hn, hr, fun j u hu => hc _ u (hg j u hu)⟩
end

theorem ownsRow_of {w w' : World} {base : Nat} {t : TypeId} {size n : Nat} {v : Value} {cs : List Value} (h : w.ownsRow base t size v n cs)
    (hv : ∀ k, v.ownBlock = some k → w'.heap[k]? = w.heap[k]?) : w'.ownsRow base t size v n cs := by
  refine ⟨h.1, ?_⟩
  rcases h.2 with hn | ⟨g, cap, cur, rfl, h1, hh, h2⟩
  · exact .inl hn
  · exact .inr ⟨g, cap, cur, rfl, h1, (hv g rfl).trans hh, h2⟩

/-- A row of the call's own, written at will: its own block (if it has one) is g's; what its elements lead to lies outside of M. -/
def Own {α : Type} [Rep α] (w : World) (base : Nat) (t : TypeId) (M : Nat → Prop) (v : Value) (xs : List α) : Prop :=
  ∃ cs, w.ownsRow base t (Rep.sz α) v xs.length cs ∧ Reps w M xs cs

section
variable {α : Type} [Rep α] {w w' : World} {base : Nat} {t : TypeId} {M M' : Nat → Prop} {v : Value} {xs : List α}
theorem Own.nil (w : World) (base : Nat) (t : TypeId) (M : Nat → Prop) : Own w base t M (.slice none 0 0) ([] : List α) :=
  ⟨[], World.ownsRow_nil w base t _, rfl⟩
theorem Own.sl (h : Own w base t M v xs) (hM : ∀ g, v.ownBlock = some g → ¬ M g) : Sl w M v xs := by
  obtain ⟨cs, ho, hr⟩ := h
  rcases ho.2 with ⟨rfl, h0⟩ | ⟨g, cap, cur, rfl, hb, hh, hn, hm, _⟩
  · have hx : xs = [] := List.eq_nil_of_length_eq_zero h0
    subst hx
    exact Sl.nil w M
  · refine ⟨some ⟨g, 0, none⟩, cap, cs, rfl, hn, hm, hr, fun _ => ⟨_, rfl, hM g rfl, ho.cells (g := g) rfl⟩⟩
theorem Own.lt (h : Own w base t M v xs) : ∀ k, v.ownBlock = some k → base ≤ k ∧ k < w.heap.size := by
  obtain ⟨cs, ho, _⟩ := h
  exact ho.lt
theorem Own.step0 (h : Own w base t M v xs) (hb : ∀ b, b < w.heap.size → ¬ M b → w'.heap[b]? = w.heap[b]?) (hM : ∀ b, b < w.heap.size → M' b → M b)
    (hv : ∀ k, v.ownBlock = some k → w'.heap[k]? = w.heap[k]?) : Own w' base t M' v xs := by
  obtain ⟨cs, ho, hr⟩ := h
  refine ⟨cs, ⟨ho.1, ?_⟩, hr.step hb hM⟩
  rcases ho.2 with hn | ⟨g, cap, cur, rfl, h1, hh, h2⟩
  · exact .inl hn
  · exact .inr ⟨g, cap, cur, rfl, h1, (hv g rfl).trans hh, h2⟩
end
end Go.Proofs.Ytfbpjadigmkkkaa
