/- A row of the call's own, its elements' memory all above B: append, as a step of a list of operations and of a region. -/
import Derived.Test.YtfbpjadigmkkkaaOwn
namespace Go.Proofs.Ytfbpjadigmkkkaa
open Go.RowKit

/-- A row of the call's own: it and what its elements lead to lie in blocks from B on; no element leads into the row's own block. -/
def OwnR {α : Type} [Rep α] (w : World) (B : Nat) (e : TypeId) (v : Value) (xs : List α) : Prop := Own w B e (fun k => k < B ∨ v.ownBlock = some k) v xs
def Old (B : Nat) : Nat → Prop := fun k => k < B

section
variable {α : Type} [Rep α] {w w' : World} {B : Nat} {e : TypeId} {v : Value} {xs : List α}
theorem OwnR.nil (w : World) (B : Nat) (e : TypeId) : OwnR w B e (.slice none 0 0) ([] : List α) := Own.nil _ _ _ _
theorem OwnR.lt (h : OwnR w B e v xs) : ∀ k, v.ownBlock = some k → B ≤ k ∧ k < w.heap.size := Own.lt h
theorem OwnR.step {M : Nat → Prop} (h : OwnR w B e v xs) (k : Step M w w') (hM : ∀ b, b < w.heap.size → M b → b < B) : OwnR w' B e v xs := by
  refine Own.step0 h (fun b hb hn => k.block b hb (fun hm => hn (.inl (hM b hb hm)))) (fun _ _ h => h) (fun b hb => ?_)
  have := h.lt b hb
  exact k.block b this.2 (fun hm => by have := hM b this.2 hm; omega)
theorem Own.weak {M M' : Nat → Prop} (h : Own w B e M v xs) (hM : ∀ b, b < w.heap.size → M' b → M b) : Own w B e M' v xs :=
  h.step0 (fun _ _ _ => rfl) hM (fun _ _ => rfl)
theorem Sl.weak {M M' : Nat → Prop} (h : Sl w M v xs) (hM : ∀ b, b < w.heap.size → M' b → M b) : Sl w M' v xs := h.step0 (fun _ _ _ => rfl) hM
theorem OwnR.sl (h : OwnR w B e v xs) : Sl w (Old B) v xs :=
  Own.sl (Own.weak h (fun _ _ hb => .inl hb)) (fun g hg hm => by have := (h.lt g hg).1; simp only [Old] at hm; omega)
theorem OwnR.ne {g : Nat} {t : TypeId} {cs : Array Value} (h : OwnR w B e v xs) (hb : Blk w g t cs) (hne : e ≠ t) : v.ownBlock ≠ some g := by
  obtain ⟨ds, ho, _⟩ := h
  rcases ho.2 with ⟨rfl, _⟩ | ⟨g', cap, cur, rfl, _, hh, _⟩
  · simp [Value.ownBlock]
  · simp only [Value.ownBlock]
    intro e'
    injection e' with e'
    subst e'
    unfold Blk at hb
    rw [hb] at hh
    injection hh with hh
    injection hh with _ hh
    exact hne hh.symm
theorem OwnR.form (h : OwnR w B e v xs) : ∃ A c, v = .slice A xs.length c ∧ xs.length ≤ c ∧ c ≤ maxLen := h.sl.form
end

section
variable {P : Program} (w : World)
theorem run_append_sl2 {α : Type} [Rep α] (base : Nat) (t ty e : TypeId) (z : Value) (bytes : Nat) (ht : P.underlying t = some (.slice e))
    (hinfo : (P.info? e).map (fun i => (i.zero, i.size, i.bytes)) = some (some z, Rep.sz α, bytes)) (hzs : z.cells.size = Rep.sz α) (hb0 : 0 < bytes)
    (M : Nat → Prop) (v : Value) (xs : List α) (hown : Own w base e M v xs) (hv : ∀ g, v.ownBlock = some g → M g) (u : Value) (ys : List α) (hr : Sl w M u ys)
    (hbytes : (xs.length + ys.length) * bytes ≤ 140737488355328) (hbase : base ≤ w.heap.size) :
    ∃ v' w', (Builtin.append_ #[t, t] ty #[v, u]).run P w = .ok v' w' ∧ (∀ M' : Nat → Prop, (∀ b, b < w.heap.size → M' b → M b) → Own w' base e M' v' (xs ++ ys)) ∧ w.grownBy w' v.ownBlock ∧
      (v'.ownBlock = v.ownBlock ∨ v'.ownBlock = some w.heap.size) := by
  obtain ⟨i, hi, hzz⟩ := Option.map_eq_some_iff.1 hinfo
  simp only [Prod.mk.injEq] at hzz
  obtain ⟨hz, hsize, hby⟩ := hzz
  obtain ⟨cs, ho, hrx⟩ := hown
  obtain ⟨A, c, ds, rfl, h1, h1b, h2, h3⟩ := hr
  have hpos : 0 < Rep.sz α := Rep.pos
  have hsmall : xs.length + ys.length ≤ 140737488355328 := Nat.le_trans (Nat.le_mul_of_pos_right _ hb0) hbytes
  rcases Nat.eq_zero_or_pos ys.length with h0 | h0
  · obtain rfl : ys = [] := List.eq_nil_of_length_eq_zero h0
    exact ⟨v, w, run_append_of_nil w base t ty e i _ ht hi v _ cs ho A c, fun M' hM' => ⟨cs, by simpa using ho, by simpa using hrx.step (fun _ _ _ => rfl) hM'⟩, World.grownBy.refl w _, .inl rfl⟩
  · have hl : 0 < ds.length := by rw [h2.len]; exact Nat.mul_pos h0 hpos
    obtain ⟨ad, rfl, hn, hc⟩ := h3 hl
    obtain ⟨v', w', hrun, g1, g2, _, g4⟩ := run_append_own_at (P := P) w base t ty e i z (Rep.sz α) bytes ht hi hz hsize hby hzs hpos v xs.length cs ho ad ys.length c ds h2.len hc h2.one
      (by simp only [maxLen]; omega) hbytes hbase
    refine ⟨v', w', hrun, fun M' hM' => ⟨cs ++ ds, by rw [List.length_append]; exact g1, ?_⟩, g2, g4⟩
    have hblk : ∀ b, b < w.heap.size → ¬ M b → w'.heap[b]? = w.heap[b]? := fun b hb hm => g2.block b hb (fun e => hm (hv b e.symm))
    exact (hrx.step hblk hM').append (h2.step hblk hM')

/-- append of a slice that reads, onto a row of the call's own. -/
theorem run_append_r {α : Type} [Rep α] (B : Nat) (t ty e : TypeId) (z : Value) (bytes : Nat) (ht : P.underlying t = some (.slice e))
    (hinfo : (P.info? e).map (fun i => (i.zero, i.size, i.bytes)) = some (some z, Rep.sz α, bytes)) (hzs : z.cells.size = Rep.sz α) (hb0 : 0 < bytes)
    (v : Value) (xs : List α) (hown : OwnR w B e v xs) (u : Value) (ys : List α) (hr : Sl w (fun k => k < B ∨ v.ownBlock = some k) u ys)
    (hbytes : (xs.length + ys.length) * bytes ≤ 140737488355328) (hbase : B ≤ w.heap.size) :
    ∃ v' w', (Builtin.append_ #[t, t] ty #[v, u]).run P w = .ok v' w' ∧ OwnR w' B e v' (xs ++ ys) ∧ Step (fun k => v.ownBlock = some k) w w' := by
  obtain ⟨v', w', hrun, h1, h2, h3⟩ := run_append_sl2 (P := P) w B t ty e z bytes ht hinfo hzs hb0 _ v xs hown (fun g hg => .inr hg) u ys hr hbytes hbase
  refine ⟨v', w', hrun, h1 _ (fun b hb hm => ?_), ⟨h2.os, h2.tape, h2.output, h2.size, fun k hk hn => h2.block k hk (fun e => hn e.symm)⟩⟩
  rcases hm with hm | hm
  · exact .inl hm
  · rcases h3 with h3 | h3
    · rw [h3] at hm; exact .inr hm
    · rw [h3] at hm; injection hm with hm; omega

theorem one_sl {α : Type} [Rep α] {M : Nat → Prop} {y : α} {cs : Array Value} {e : TypeId} (hy : Rep.c w M y cs.toList) (hM : ∀ b, M b → b < w.heap.size) :
    Sl (w.alloc (.cells cs e)) M (.slice (some ⟨w.heap.size, 0, none⟩) 1 1) [y] := by
  have hst : Step M w (w.alloc (.cells cs e)) := (Step.refl M w).alloc _
  refine ⟨some ⟨w.heap.size, 0, none⟩, 1, cs.toList, rfl, Nat.le_refl _, by simp [maxLen], .single (Rep.step hst.block (fun _ _ h => h) hy), fun _ => ⟨_, rfl, fun hm => by have := hM _ hm; simp at this, fun j u hu => ?_⟩⟩
  rw [show (⟨w.heap.size, 0, none⟩ : Addr).add j = ⟨w.heap.size, j, none⟩ from by unfold Addr.add; split <;> simp_all]
  rw [cell_of_row _ _ j cs e (0, 0) (heap_alloc_new w _)]
  simpa using hu

/-- append(xs, y), y laid into a block of its own just ahead: as the step of a list of operations. -/
theorem wpList_append_r {α : Type} [Rep α] {ops : Array Oper} {rest : List Oper} {o : Oper} {a : Act} {Q : Exit → Act → World → Prop} (hgd : o.guard = none) (s x : Operand) (t : TypeId)
    (ho : o.op = .call { callee := .builtin .append, args := #[s, x], argTypes := #[t, t] })
    (B : Nat) (e : TypeId) (z : Value) (bytes : Nat) (ht : P.underlying t = some (.slice e))
    (hinfo : (P.info? e).map (fun i => (i.zero, i.size, i.bytes)) = some (some z, Rep.sz α, bytes)) (hzs : z.cells.size = Rep.sz α) (hb0 : 0 < bytes)
    (v : Value) (xs : List α) (hs : a.eval s = v) (hown : OwnR w B e v xs)
    (y : α) (cs : Array Value) (hy : Rep.c w (fun k => k < B ∨ v.ownBlock = some k) y cs.toList)
    (hx : a.eval x = .slice (some ⟨w.heap.size, 0, none⟩) 1 1)
    (hbytes : (xs.length + 1) * bytes ≤ 140737488355328) (hbase : B ≤ w.heap.size)
    (h : ∀ v' w', OwnR w' B e v' (xs ++ [y]) → Step (fun k => v.ownBlock = some k) w w' → wpList P ops Q rest (a.put o.dst v') w') : wpList P ops Q (o :: rest) a (w.alloc (.cells cs e)) := by
  refine wpList_plain hgd fun K hK => ?_
  have hst : Step Nil0 w (w.alloc (.cells cs e)) := (Step.refl _ w).alloc _
  have hown2 := hown.step hst (fun _ _ h => h.elim)
  have hM : ∀ b, (b < B ∨ v.ownBlock = some b) → b < w.heap.size := fun b hb => hb.elim (fun h => by omega) (fun h => (hown.lt b h).2)
  obtain ⟨v', w', hrun, h1, h2⟩ := run_append_r (P := P) (w.alloc (.cells cs e)) B t o.type e z bytes ht hinfo hzs hb0 v xs hown2 _ [y] (one_sl w hy hM) hbytes (by simp; omega)
  unfold Oper.wp execOp
  simp only [ho, resolve, invoke, builtin, Sem.run_bind, Sem.run_pure, Result.andThen_ok, List.map_toArray, List.map_cons, List.map_nil, hs, hx, hrun]
  exact hK _ _ (h v' w' h1 ((hst.mono (fun _ _ h => h.elim)).then_ h2))

/-- The same as a step of a region that draws. -/
theorem step_append_r {α : Type} [Rep α] {ops : Array Oper} {o : Oper} {a : Act} {Q : Exit → Act → World → Prop} {K : Act → World → Prop} {E : Prop} (hgd : o.guard = none) (s x : Operand) (t : TypeId)
    (ho : o.op = .call { callee := .builtin .append, args := #[s, x], argTypes := #[t, t] })
    (B : Nat) (e : TypeId) (z : Value) (bytes : Nat) (ht : P.underlying t = some (.slice e))
    (hinfo : (P.info? e).map (fun i => (i.zero, i.size, i.bytes)) = some (some z, Rep.sz α, bytes)) (hzs : z.cells.size = Rep.sz α) (hb0 : 0 < bytes)
    (v : Value) (xs : List α) (hs : a.eval s = v) (hown : OwnR w B e v xs)
    (y : α) (cs : Array Value) (hy : Rep.c w (fun k => k < B ∨ v.ownBlock = some k) y cs.toList)
    (hx : a.eval x = .slice (some ⟨w.heap.size, 0, none⟩) 1 1)
    (hbytes : (xs.length + 1) * bytes ≤ 140737488355328) (hbase : B ≤ w.heap.size)
    (h : ∀ v' w', OwnR w' B e v' (xs ++ [y]) → Step (fun k => v.ownBlock = some k) w w' → K (a.put o.dst v') w') :
    if Region.wanted o (yielded ops a.tmps) = true then Oper.wp P o a (w.alloc (.cells cs e)) K Q else E := by
  rw [if_pos (by simp [Region.wanted, hgd])]
  have hst : Step Nil0 w (w.alloc (.cells cs e)) := (Step.refl _ w).alloc _
  have hown2 := hown.step hst (fun _ _ h => h.elim)
  have hM : ∀ b, (b < B ∨ v.ownBlock = some b) → b < w.heap.size := fun b hb => hb.elim (fun h => by omega) (fun h => (hown.lt b h).2)
  obtain ⟨v', w', hrun, h1, h2⟩ := run_append_r (P := P) (w.alloc (.cells cs e)) B t o.type e z bytes ht hinfo hzs hb0 v xs hown2 _ [y] (one_sl w hy hM) hbytes (by simp; omega)
  unfold Oper.wp execOp
  simp only [ho, resolve, invoke, builtin, Sem.run_bind, Sem.run_pure, Result.andThen_ok, List.map_toArray, List.map_cons, List.map_nil, hs, hx, hrun]
  exact h v' w' h1 ((hst.mono (fun _ _ h => h.elim)).then_ h2)
end
end Go.Proofs.Ytfbpjadigmkkkaa
