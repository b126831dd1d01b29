/- strings.Builder, made by the call itself: the writers' contracts, with the frame that turns just the builder's block and its row. -/
import Derived.Test.YtfbpjadigmkkkaaProg
import Derived.Test.YtfbpjadigmkkkaaOwn
import Derived.WalkKit
import Derived.KernelRfl
import Derived.Lib.Builder
import Derived.Lib.Hide
import Derived.Shelf.Strings.Builder1
namespace Go.Proofs.Ytfbpjadigmkkkaa
open Go.RowKit

/-- A builder in block b, used or not, that holds the bytes l; M: b and its row. -/
def Bld (w : World) (B b : Nat) (M : Nat → Prop) (l : List UInt8) : Prop :=
  B ≤ b ∧ ∃ p v, (p = .pointer none ∨ p = .pointer (some ⟨b, 0, none⟩)) ∧ Blk w b 55 #[p, v] ∧ w.ownsRow B 5 1 v l.length (Lib.byteCells l) ∧ v.ownBlock ≠ some b ∧
    ∀ k, M k ↔ k = b ∨ v.ownBlock = some k

theorem Bld.is {w : World} {B b : Nat} {M : Nat → Prop} {l : List UInt8} (h : Bld w B b M l) : Lib.IsBuilder 55 5 B b (Lib.byteCells l) w := by
  obtain ⟨hB, p, v, hp, h1, h2, h3, _⟩ := h
  rcases hp with rfl | rfl
  · exact .inl ⟨hB, v, h1, by rw [Lib.byteCells_length]; exact h2, h3⟩
  · exact .inr ⟨hB, v, h1, by rw [Lib.byteCells_length]; exact h2, h3⟩
theorem Bld.ge {w : World} {B b : Nat} {M : Nat → Prop} {l : List UInt8} (h : Bld w B b M l) : ∀ k, M k → B ≤ k := by
  obtain ⟨hB, p, v, hp, h1, h2, h3, h4⟩ := h
  intro k hk
  rcases (h4 k).1 hk with rfl | hk
  · exact hB
  · exact (h2.lt k hk).1
theorem Bld.lt {w : World} {B b : Nat} {M : Nat → Prop} {l : List UInt8} (h : Bld w B b M l) : ∀ k, M k → k < w.heap.size := by
  obtain ⟨hB, p, v, hp, h1, h2, h3, h4⟩ := h
  intro k hk
  rcases (h4 k).1 hk with rfl | hk
  · exact h1.lt
  · exact (h2.lt k hk).2
theorem Bld.new (w : World) (B : Nat) (hB : B ≤ w.heap.size) : Bld (w.alloc (.cells #[.pointer none, .slice none 0 0] 55)) B w.heap.size (One w.heap.size) [] :=
  ⟨hB, _, _, .inl rfl, Blk.new w _ _, World.ownsRow_nil _ _ _ _, by simp [Value.ownBlock], fun k => by simp [One, Value.ownBlock]⟩
/-- What happens beside leaves a builder alone. -/
theorem Bld.step {w w' : World} {B b : Nat} {M N : Nat → Prop} {l : List UInt8} (h : Bld w B b M l) (k : Step N w w') (hN : ∀ k, M k → ¬ N k) : Bld w' B b M l := by
  obtain ⟨hB, p, v, hp, h1, h2, h3, h4⟩ := h
  refine ⟨hB, p, v, hp, h1.step k (hN b ((h4 b).2 (.inl rfl))), ownsRow_of h2 (fun j hj => ?_), h3, h4⟩
  exact k.block j (h2.lt j hj).2 (hN j ((h4 j).2 (.inr hj)))

theorem bld_size : (Try.prog.info? 55).map (·.size) = some 2 := by kernel_rfl
theorem bld_lies : liesAt Try.prog Try.prog.depth 55 (2 / Try.prog.cellsOf 55) 0 55 1 = true := by kernel_rfl
theorem info_u8 : (Try.prog.info? 5).map (fun i => (i.zero, i.size, i.bytes)) = some (some (.int .u8 0), 1, 1) := by kernel_rfl

set_option maxHeartbeats 1000000 in
set_option maxRecDepth 100000 in
theorem copyCheck_used (b : Nat) (w : World) {R : Ending → World → Prop} (h0 : w.cell? ⟨b, 0, none⟩ = some (.pointer (some ⟨b, 0, none⟩))) (h : R (.returned (.tuple #[])) w) :
    Calls Try.prog 57 #[.pointer (some ⟨b, 0, none⟩)] w R := by
  obtain ⟨j, hj, _⟩ := Option.map_eq_some_iff.1 bld_size
  go_enter Try.func57, Try.ntmps57
  go_wp2
  rw [Lib.run_neq_ptr_same w _ Try.underlying52 hj]
  go_wp2
  go_end0
  exact h

set_option maxHeartbeats 1000000 in
set_option maxRecDepth 100000 in
theorem copyCheck_fresh (b : Nat) (w : World) {R : Ending → World → Prop} (h0 : w.cell? ⟨b, 0, none⟩ = some (.pointer none)) (hsh : w.shape? b = some (55, 2)) (hfz : w.frozen? ⟨b, 0, none⟩ = false)
    (h : R (.returned (.tuple #[])) (w.setCell ⟨b, 0, none⟩ (.pointer (some ⟨b, 0, none⟩)))) :
    Calls Try.prog 57 #[.pointer (some ⟨b, 0, none⟩)] w R := by
  obtain ⟨j, hj, hjs⟩ := Option.map_eq_some_iff.1 bld_size
  go_enter Try.func57, Try.ntmps57
  go_wp2
  rw [Lib.run_to_unsafe w ⟨b, 0, none⟩ Try.underlying52 Try.underlying87 hj (by rw [hjs]; decide) hsh (Nat.zero_lt_succ 1)]
  simp only [Result.andThen]
  rw [Oper.upon_value]
  go_wp2
  rw [run_callFunc_extern Try.func66 (by kernel_rfl) (by kernel_rfl) (by kernel_rfl) (e := Extern.AbiNoEscape.same) (by kernel_rfl)]
  rw [Lib.run_noEscape]
  simp only [Result.andThen]
  rw [Oper.upon_value]
  go_wp2
  rw [Lib.run_from_unsafe w ⟨b, 0, none⟩ Try.underlying87 Try.underlying52 hj hsh bld_lies]
  simp only [Result.andThen]
  rw [Oper.upon_value]
  go_wp2
  go_end0
  exact h

/-- Behind copyCheck the builder bears its own address; nothing else has turned. -/
theorem copyCheck_c (B b : Nat) (M : Nat → Prop) (l : List UInt8) (w : World) (hb : Bld w B b M l) {R : Ending → World → Prop}
    (h : ∀ w' v, Step (One b) w w' → Blk w' b 55 #[.pointer (some ⟨b, 0, none⟩), v] → w'.ownsRow B 5 1 v l.length (Lib.byteCells l) → v.ownBlock ≠ some b → (∀ k, M k ↔ k = b ∨ v.ownBlock = some k) → R (.returned (.tuple #[])) w') :
    Calls Try.prog 57 #[.pointer (some ⟨b, 0, none⟩)] w R := by
  obtain ⟨hB, p, v, hp, h1, h2, h3, h4⟩ := hb
  rcases hp with rfl | rfl
  · refine copyCheck_fresh b w (by rw [h1.cell]; rfl) (by unfold Blk at h1; simp [World.shape?, h1]) (h1.frozen 0) (h _ v ((Step.refl _ _).setCell (p := ⟨b, 0, none⟩) _ (fun _ => rfl)) (by have := h1.set_ 0 (.pointer (some ⟨b, 0, none⟩)); simpa using this) ?_ h3 h4)
    exact ownsRow_of h2 (fun k hk => Below.heap_setCell _ _ _ _ (fun e => h3 (by rw [hk, e])))
  · exact copyCheck_used b w (by rw [h1.cell]; rfl) (h _ v (Step.refl _ _) h1 h2 h3 h4)

set_option maxHeartbeats 2000000 in
set_option maxRecDepth 100000 in
theorem writeString_c (B b : Nat) (M : Nat → Prop) (l : List UInt8) (s : Str) (w : World) (hb : Bld w B b M l) (hlen : l.length + s.size ≤ 140737488355328) (hBw : B ≤ w.heap.size) {R : Ending → World → Prop}
    (h : ∀ w' M', Up w M w' M' → Bld w' B b M' (l ++ s.data.toList) → R (.returned (.tuple #[.int .i64 s.size, .nilIface])) w') :
    Calls Try.prog 45 #[.pointer (some ⟨b, 0, none⟩), .string s] w R := by
  have hbB := hb.1
  go_enter Try.func45, Try.ntmps45
  go_wp2_with (go_at_call 57; refine copyCheck_c B b M l _ hb ?_)
  intro w1 v hs1 hbk hown hne hM
  replace hne := Lib.hid hne
  have c0 : w1.cell? ⟨b, 0, none⟩ = some (.pointer (some ⟨b, 0, none⟩)) := by rw [hbk.cell]; rfl
  have c1 : w1.cell? ⟨b, 1, none⟩ = some v := by rw [hbk.cell]; rfl
  go_wp2_with (at_builtin; refine wpList_append_string_at _ rfl _ _ 53 9 rfl B 5 Try.underlying53 Try.underlying9 info_u8 _ _ _ rfl hown s rfl ?c4 ?c5 ?_)
  case c4 => omega
  case c5 => have := hs1.size; omega
  intro v' w2 hown' hgrow hat
  have hlt := hbk.lt
  have hb2 : Blk w2 b 55 #[.pointer (some ⟨b, 0, none⟩), v] := hbk.grown hgrow (fun e => hne.out e.symm)
  have d0 : w2.cell? ⟨b, 0, none⟩ = some (.pointer (some ⟨b, 0, none⟩)) := by rw [hb2.cell]; rfl
  have d1 : w2.cell? ⟨b, 1, none⟩ = some v := by rw [hb2.cell]; rfl
  have f1 : w2.frozen? ⟨b, 1, none⟩ = false := hb2.frozen 1
  obtain ⟨ao, n', cap, rfl⟩ : ∃ ao n' cap, v' = .slice ao n' cap := by
    rcases hown'.2 with ⟨hv, _⟩ | ⟨g, cap, cur, hv, _⟩
    · exact ⟨_, _, _, hv⟩
    · exact ⟨_, _, _, hv⟩
  replace hat := Lib.hid hat
  replace hM := Lib.hid hM
  go_wp2
  have hn2 : (Value.slice ao n' cap).ownBlock ≠ some b := by
    rcases hat.out with e | e
    · rw [e]; exact hne.out
    · rw [e]; intro e'; injection e' with e'; omega
  refine h _ (fun k => k = b ∨ (Value.slice ao n' cap).ownBlock = some k) ⟨((hs1.mono (fun k _ hk => (hM.out k).2 (.inl hk))).grown hgrow (fun k hk _ => (hM.out k).2 (.inr hk))).setCell (p := ⟨b, 1, none⟩) _ (fun _ => (hM.out b).2 (.inl rfl)), fun k hk hm => ?_⟩
    ⟨hbB, _, _, .inr rfl, by have := hb2.set_ 1 (.slice ao n' cap); simpa using this, ?_, hn2, fun k => Iff.rfl⟩
  · rcases hm with rfl | hm
    · exact (hM.out _).2 (.inl rfl)
    · rcases hat.out with e | e
      · rw [e] at hm; exact (hM.out k).2 (.inr hm)
      · rw [e] at hm; injection hm with hm; have := hs1.size; omega
  · refine ownsRow_of ?_ (fun k hk => Below.heap_setCell _ _ _ _ (fun e => hn2 (by rw [hk, e])))
    rw [List.length_append, Lib.byteCells_append, Array.length_toList]
    exact hown'

set_option maxHeartbeats 2000000 in
set_option maxRecDepth 100000 in
theorem writeByte_c (B b : Nat) (M : Nat → Prop) (l : List UInt8) (c : UInt8) (w : World) (hb : Bld w B b M l) (hlen : l.length + 1 ≤ 140737488355328) (hBw : B ≤ w.heap.size) {R : Ending → World → Prop}
    (h : ∀ w' M', Up w M w' M' → Bld w' B b M' (l ++ [c]) → R (.returned .nilIface) w') :
    Calls Try.prog 59 #[.pointer (some ⟨b, 0, none⟩), .int .u8 (c.toNat : Int)] w R := by
  have hbB := hb.1
  go_enter Try.func59, Try.ntmps59
  go_wp2_with (go_at_call 57; refine copyCheck_c B b M l _ hb ?_)
  intro w1 v hs1 hbk hown hne hM
  replace hne := Lib.hid hne
  have c0 : w1.cell? ⟨b, 0, none⟩ = some (.pointer (some ⟨b, 0, none⟩)) := by rw [hbk.cell]; rfl
  have c1 : w1.cell? ⟨b, 1, none⟩ = some v := by rw [hbk.cell]; rfl
  obtain ⟨i0, hi, hzz⟩ := Option.map_eq_some_iff.1 info_u8
  simp only [Prod.mk.injEq] at hzz
  obtain ⟨hz0, hz1, hz2⟩ := hzz
  go_wp2_with (at_builtin; refine wpList_append_own_at _ rfl _ _ 53 rfl B 5 i0 (.int .u8 0) 1 1 Try.underlying53 hi hz0 hz1 hz2 rfl (by decide) _ _ _ rfl (hown.alloc _) ⟨w1.heap.size, 0, none⟩ 1 1 [.int .u8 (c.toNat : Int)] rfl rfl ?c1 ?c2 ?c3 ?c4 ?c5 ?_)
  case c1 => exact cell_one_new _ _ _
  case c2 => intro u hu; simp at hu; subst hu; rfl
  case c3 => unfold maxLen; omega
  case c4 => omega
  case c5 => have := hs1.size; simp; omega
  intro v' w2 hown' hgrow0 _ hat
  have hgrow : w1.grownBy w2 v.ownBlock := World.grownBy.trans (World.grownBy_alloc w1 _ _) hgrow0
  have hlt := hbk.lt
  have hb2 : Blk w2 b 55 #[.pointer (some ⟨b, 0, none⟩), v] := hbk.grown hgrow (fun e => hne.out e.symm)
  have d0 : w2.cell? ⟨b, 0, none⟩ = some (.pointer (some ⟨b, 0, none⟩)) := by rw [hb2.cell]; rfl
  have d1 : w2.cell? ⟨b, 1, none⟩ = some v := by rw [hb2.cell]; rfl
  have f1 : w2.frozen? ⟨b, 1, none⟩ = false := hb2.frozen 1
  obtain ⟨ao, n', cap, rfl⟩ : ∃ ao n' cap, v' = .slice ao n' cap := by
    rcases hown'.2 with ⟨hv, _⟩ | ⟨g, cap, cur, hv, _⟩
    · exact ⟨_, _, _, hv⟩
    · exact ⟨_, _, _, hv⟩
  replace hat := Lib.hid hat
  replace hM := Lib.hid hM
  go_wp2
  have hn2 : (Value.slice ao n' cap).ownBlock ≠ some b := by
    rcases hat.out with e | e
    · rw [e]; exact hne.out
    · rw [e]; intro e'; injection e' with e'; omega
  refine h _ (fun k => k = b ∨ (Value.slice ao n' cap).ownBlock = some k) ⟨((hs1.mono (fun k _ hk => (hM.out k).2 (.inl hk))).grown hgrow (fun k hk _ => (hM.out k).2 (.inr hk))).setCell (p := ⟨b, 1, none⟩) _ (fun _ => (hM.out b).2 (.inl rfl)), fun k hk hm => ?_⟩
    ⟨hbB, _, _, .inr rfl, by have := hb2.set_ 1 (.slice ao n' cap); simpa using this, ?_, hn2, fun k => Iff.rfl⟩
  · rcases hm with rfl | hm
    · exact (hM.out _).2 (.inl rfl)
    · rcases hat.out with e | e
      · rw [e] at hm; exact (hM.out k).2 (.inr hm)
      · rw [e] at hm; injection hm with hm; have := hs1.size; omega
  · refine ownsRow_of ?_ (fun k hk => Below.heap_setCell _ _ _ _ (fun e => hn2 (by rw [hk, e])))
    rw [List.length_append, Lib.byteCells_append]
    exact hown'
end Go.Proofs.Ytfbpjadigmkkkaa
