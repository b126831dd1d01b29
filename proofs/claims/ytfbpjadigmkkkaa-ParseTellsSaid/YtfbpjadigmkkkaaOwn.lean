/- append onto a row of the call's own: what is appended is a slice that reads, one new element, or a string. -/
import Derived.Test.YtfbpjadigmkkkaaData
import Derived.Lib.AppendStr
import Derived.Lib.UnsafeStr
namespace Go.Proofs.Ytfbpjadigmkkkaa
open Go.RowKit
section
variable {P : Program} (w : World)

theorem run_append_of_nil (base : Nat) (t ty e : TypeId) (i : TypeInfo) (size : Nat) (ht : P.underlying t = some (.slice e)) (hi : P.info? e = some i)
    (v : Value) (n : Nat) (xs : List Value) (hown : w.ownsRow base e size v n xs) (A : Option Addr) (c : Nat) : (Builtin.append_ #[t, t] ty #[v, .slice A 0 c]).run P w = .ok v w := by
  have hf : ∀ (w : World), (Builtin.firstCells i.size 0 (.slice A 0 c)).run P w = .ok #[] w := by
    intro w
    cases A <;> simp [Builtin.firstCells, loadCells, loadCellsFrom]
  rcases hown.2 with ⟨rfl, rfl⟩ | ⟨g, cap, cur, rfl, _, _, hnc, _⟩
  · simp [Builtin.append_, run_underlying ht, sizeOf, typeInfo, hi, Builtin.lenOf, hf]
  · simp [Builtin.append_, run_underlying ht, sizeOf, typeInfo, hi, Builtin.lenOf, hnc, storeCells, hf]

/-- What an append leaves: the row, the world, where the row lies. -/
structure Grew {α : Type} [Rep α] (w : World) (base : Nat) (e : TypeId) (M : Nat → Prop) (v : Value) (v' : Value) (w' : World) (xs : List α) : Prop where
  own : Own w' base e M v' xs
  grown : w.grownBy w' v.ownBlock
  at_ : v'.ownBlock = v.ownBlock ∨ v'.ownBlock = some w.heap.size

theorem run_append_sl {α : Type} [Rep α] (base : Nat) (t ty e : TypeId) (z : Value) (bytes : Nat) (ht : P.underlying t = some (.slice e))
    (hinfo : (P.info? e).map (fun i => (i.zero, i.size, i.bytes)) = some (some z, Rep.sz α, bytes)) (hzs : z.cells.size = Rep.sz α) (hb0 : 0 < bytes)
    (M : Nat → Prop) (v : Value) (xs : List α) (hown : Own w base e M v xs) (hv : ∀ g, v.ownBlock = some g → M g) (u : Value) (ys : List α) (hr : Sl w M u ys)
    (hbytes : (xs.length + ys.length) * bytes ≤ 140737488355328) (hbase : base ≤ w.heap.size) :
    ∃ v' w', (Builtin.append_ #[t, t] ty #[v, u]).run P w = .ok v' w' ∧ Grew w base e M v v' w' (xs ++ ys) := by
  obtain ⟨i, hi, hzz⟩ := Option.map_eq_some_iff.1 hinfo
  simp only [Prod.mk.injEq] at hzz
  obtain ⟨hz, hsize, hby⟩ := hzz
  obtain ⟨cs, ho, hrx⟩ := hown
  obtain ⟨A, c, ds, rfl, h1, h1b, h2, h3⟩ := hr
  have hpos : 0 < Rep.sz α := Rep.pos
  have hsmall : xs.length + ys.length ≤ 140737488355328 := Nat.le_trans (Nat.le_mul_of_pos_right _ hb0) hbytes
  rcases Nat.eq_zero_or_pos ys.length with h0 | h0
  · obtain rfl : ys = [] := List.eq_nil_of_length_eq_zero h0
    exact ⟨v, w, run_append_of_nil w base t ty e i _ ht hi v _ cs ho A c, ⟨⟨cs, by simpa using ho, by simpa using hrx⟩, World.grownBy.refl w _, .inl rfl⟩⟩
  · have hl : 0 < ds.length := by rw [h2.len]; exact Nat.mul_pos h0 hpos
    obtain ⟨ad, rfl, hn, hc⟩ := h3 hl
    obtain ⟨v', w', hrun, g1, g2, _, g4⟩ := run_append_own_at (P := P) w base t ty e i z (Rep.sz α) bytes ht hi hz hsize hby hzs hpos v xs.length cs ho ad ys.length c ds h2.len hc h2.one
      (by simp only [maxLen]; omega) hbytes hbase
    refine ⟨v', w', hrun, ⟨⟨cs ++ ds, by rw [List.length_append]; exact g1, ?_⟩, g2, g4⟩⟩
    have hblk : ∀ b, b < w.heap.size → ¬ M b → w'.heap[b]? = w.heap[b]? := fun b hb hm => g2.block b hb (fun e => hm (hv b e.symm))
    exact (hrx.step hblk (fun _ _ h => h)).append (h2.step hblk (fun _ _ h => h))

theorem wpList_append_sl {α : Type} [Rep α] {ops : Array Oper} {rest : List Oper} {o : Oper} {a : Act} {Q : Exit → Act → World → Prop} (hgd : o.guard = none) (s x : Operand) (t : TypeId)
    (ho : o.op = .call { callee := .builtin .append, args := #[s, x], argTypes := #[t, t] })
    (base : Nat) (e : TypeId) (z : Value) (bytes : Nat) (ht : P.underlying t = some (.slice e))
    (hinfo : (P.info? e).map (fun i => (i.zero, i.size, i.bytes)) = some (some z, Rep.sz α, bytes)) (hzs : z.cells.size = Rep.sz α) (hb0 : 0 < bytes)
    (M : Nat → Prop) (v : Value) (xs : List α) (hs : a.eval s = v) (hown : Own w base e M v xs) (hv : ∀ g, v.ownBlock = some g → M g) (u : Value) (ys : List α) (hx : a.eval x = u) (hr : Sl w M u ys)
    (hbytes : (xs.length + ys.length) * bytes ≤ 140737488355328) (hbase : base ≤ w.heap.size)
    (h : ∀ v' w', Grew w base e M v v' w' (xs ++ ys) → wpList P ops Q rest (a.put o.dst v') w') : wpList P ops Q (o :: rest) a w := by
  refine wpList_plain hgd fun K hK => ?_
  obtain ⟨v', w', hrun, hg⟩ := run_append_sl (P := P) w base t o.type e z bytes ht hinfo hzs hb0 M v xs hown hv u ys hr hbytes hbase
  unfold Oper.wp execOp
  simp only [ho, resolve, invoke, builtin, Sem.run_bind, Sem.run_pure, Result.andThen_ok, List.map_toArray, List.map_cons, List.map_nil, hs, hx, hrun]
  exact hK _ _ (h v' w' hg)

/-- One new element, which the statement has just laid into a block of its own. -/
theorem wpList_append_one {α : Type} [Rep α] {ops : Array Oper} {rest : List Oper} {o : Oper} {a : Act} {Q : Exit → Act → World → Prop} (hgd : o.guard = none) (s x : Operand) (t : TypeId)
    (ho : o.op = .call { callee := .builtin .append, args := #[s, x], argTypes := #[t, t] })
    (base : Nat) (e : TypeId) (z : Value) (bytes : Nat) (ht : P.underlying t = some (.slice e))
    (hinfo : (P.info? e).map (fun i => (i.zero, i.size, i.bytes)) = some (some z, Rep.sz α, bytes)) (hzs : z.cells.size = Rep.sz α) (hb0 : 0 < bytes)
    (M : Nat → Prop) (v : Value) (xs : List α) (hs : a.eval s = v) (hown : Own w base e M v xs) (hv : ∀ g, v.ownBlock = some g → M g)
    (y : α) (cs : Array Value) (hy : Rep.c w M y cs.toList) (hM : ∀ b, M b → b < w.heap.size)
    (hx : a.eval x = .slice (some ⟨w.heap.size, 0, none⟩) 1 1)
    (hbytes : (xs.length + 1) * bytes ≤ 140737488355328) (hbase : base ≤ w.heap.size)
    (h : ∀ v' w', Grew (w.alloc (.cells cs e)) base e M v v' w' (xs ++ [y]) → wpList P ops Q rest (a.put o.dst v') w') : wpList P ops Q (o :: rest) a (w.alloc (.cells cs e)) := by
  have hst : Step M w (w.alloc (.cells cs e)) := (Step.refl M w).alloc _
  refine wpList_append_sl (w.alloc (.cells cs e)) hgd s x t ho base e z bytes ht hinfo hzs hb0 M v xs hs ?_ hv _ [y] hx ?_ hbytes (by simp; omega) h
  · refine hown.step0 hst.block (fun _ _ h => h) (fun k hk => ?_)
    exact Below.heap_alloc _ _ _ (hM k (hv k hk))
  · refine ⟨some ⟨w.heap.size, 0, none⟩, 1, cs.toList, rfl, Nat.le_refl _, by simp [maxLen], .single (Rep.step hst.block (fun _ _ h => h) hy), fun _ => ⟨_, rfl, fun hm => by have := hM _ hm; simp at this, fun j u hu => ?_⟩⟩
    rw [show (⟨w.heap.size, 0, none⟩ : Addr).add j = ⟨w.heap.size, j, none⟩ from by unfold Addr.add; split <;> simp_all]
    rw [cell_of_row _ _ j cs e (0, 0) (heap_alloc_new w _)]
    simpa using hu
end

section
variable {P : Program} (w : World)
/-- Appending a string's bytes to a row of bytes: as the kit's law, and where the row lies. -/
theorem run_append_string_at (base : Nat) (t u ty e : TypeId) (i : TypeInfo) (ht : P.underlying t = some (.slice e)) (hu : P.underlying u = some .string) (hi : P.info? e = some i) (hz : i.zero = some (.int .u8 0))
    (hsize : i.size = 1) (hby : i.bytes = 1)
    (v : Value) (n : Nat) (xs : List Value) (hown : w.ownsRow base e 1 v n xs) (s : ByteArray)
    (hbytes : n + s.size ≤ 140737488355328) (hbase : base ≤ w.heap.size) :
    ∃ v' w', (Builtin.append_ #[t, u] ty #[v, .string s]).run P w = .ok v' w' ∧ w'.ownsRow base e 1 v' (n + s.size) (xs ++ Lib.strCells s) ∧ w.grownBy w' v.ownBlock ∧
      (v'.ownBlock = v.ownBlock ∨ v'.ownBlock = some w.heap.size) := by
  obtain ⟨v', w', hr, h1, h2, _⟩ := Lib.run_append_own_string (P := P) w base t u ty e i ht hu hi hz hsize hby v n xs hown s (by simp only [maxLen]; omega) hbytes hbase
  refine ⟨v', w', hr, h1, h2, ?_⟩
  have hxl : xs.length = n := by simpa using hown.1
  rcases hown.2 with ⟨rfl, rfl⟩ | ⟨g, cap, cur, rfl, hbg, hg, hnc, hcm, hcs, htake⟩
  · by_cases hm : s.size = 0
    · rcases h1.2 with ⟨rfl, _⟩ | ⟨g, cap, cur, rfl, _⟩
      · exact .inl rfl
      · have hf := Lib.run_firstCells_string (P := P) w 1 s
        rw [hm] at hf
        simp [Builtin.append_, run_underlying ht, run_underlying hu, sizeOf, typeInfo, hi, hsize, Builtin.lenOf, hm, hf] at hr
    · have hr' := run_append_nil_string (P := P) w t u ty e i (.int .u8 0) ht hu hi hz s (by omega) (by omega) (by rw [hby]; omega)
      rw [hr] at hr'
      injection hr' with e1 e2
      rw [e1]
      exact .inr rfl
  · by_cases hroom : n + s.size ≤ cap
    · have hcs' : cur.size = cap := by simpa using hcs
      have hr' := Lib.run_append_room_string (P := P) w t u ty e i ht hu hi hsize g n cap cur hg s hroom (by omega)
      rw [hr] at hr'
      injection hr' with e1 e2
      rw [e1]
      exact .inl rfl
    · have holds : ∀ j u, xs[j]? = some u → w.cell? ((⟨g, 0, none⟩ : Addr).add j) = some u := hown.cells (g := g) rfl
      have hr' := Lib.run_append_grow_string (P := P) w t u ty e i (.int .u8 0) ht hu hi hz ⟨g, 0, none⟩ n cap xs (by rw [hsize]; simpa using hxl) holds s (by omega) (by omega) (by rw [hby]; exact growslice_fits (by omega) (by omega))
      rw [hr] at hr'
      injection hr' with e1 e2
      rw [e1]
      exact .inr rfl

theorem wpList_append_string_at {ops : Array Oper} {rest : List Oper} {o : Oper} {a : Act} {Q : Exit → Act → World → Prop} (hgd : o.guard = none) (sl x : Operand) (t u : TypeId)
    (ho : o.op = .call { callee := .builtin .append, args := #[sl, x], argTypes := #[t, u] })
    (base : Nat) (e : TypeId) (ht : P.underlying t = some (.slice e)) (hu : P.underlying u = some .string)
    (hinfo : (P.info? e).map (fun i => (i.zero, i.size, i.bytes)) = some (some (.int .u8 0), 1, 1))
    (v : Value) (n : Nat) (xs : List Value) (hs : a.eval sl = v) (hown : w.ownsRow base e 1 v n xs) (s : ByteArray) (hx : a.eval x = .string s)
    (hbytes : n + s.size ≤ 140737488355328) (hbase : base ≤ w.heap.size)
    (h : ∀ v' w', w'.ownsRow base e 1 v' (n + s.size) (xs ++ Lib.strCells s) → w.grownBy w' v.ownBlock → (v'.ownBlock = v.ownBlock ∨ v'.ownBlock = some w.heap.size) → wpList P ops Q rest (a.put o.dst v') w') : wpList P ops Q (o :: rest) a w := by
  refine wpList_plain hgd fun K hK => ?_
  obtain ⟨i, hi, hzz⟩ := Option.map_eq_some_iff.1 hinfo
  simp only [Prod.mk.injEq] at hzz
  obtain ⟨hz, hsize, hby⟩ := hzz
  obtain ⟨v', w', hr, h2, h3, h4⟩ := run_append_string_at (P := P) w base t u o.type e i ht hu hi hz hsize hby v n xs hown s hbytes hbase
  unfold Oper.wp execOp
  simp only [ho, resolve, invoke, builtin, Sem.run_bind, Sem.run_pure, Result.andThen_ok, List.map_toArray, List.map_cons, List.map_nil, hs, hx, hr]
  exact hK _ _ (h v' w' h2 h3 h4)
end
end Go.Proofs.Ytfbpjadigmkkkaa
