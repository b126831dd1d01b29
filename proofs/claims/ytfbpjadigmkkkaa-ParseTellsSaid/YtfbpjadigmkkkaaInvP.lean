/- A region that draws its order, by ONE relation: each operation is shown once, from whatever stands behind it by the edges; no block that was there turns. -/
import Derived.Test.YtfbpjadigmkkkaaBase
import Derived.RegionTactic
import Derived.Tactics2
import Derived.Lib.Hide
namespace Go.Proofs.Ytfbpjadigmkkkaa

def upd (vs : Nat → Value) (i : Nat) (v : Value) : Nat → Value := fun j => if j = i then v else vs j
theorem upd_self (vs : Nat → Value) (i : Nat) (v : Value) : upd vs i v i = v := by simp [upd]
theorem upd_ne (vs : Nat → Value) {i j : Nat} (v : Value) (h : j ≠ i) : upd vs i v j = vs j := by simp [upd, h]

/-- The operations' values, as predicates; beyond the list: anything. -/
def selS : List (Value → World → Prop) → Nat → Value → World → Prop
  | [], _ => fun _ _ => True
  | s :: _, 0 => s
  | _ :: ss, n + 1 => selS ss n

def StableS (s : Value → World → Prop) : Prop := ∀ v w w', Step Nil0 w w' → s v w → s v w'
theorem StableS.eq (V : Value) : StableS (fun v _ => v = V) := fun _ _ _ _ h => h
theorem StableS.true : StableS (fun _ _ => True) := fun _ _ _ _ _ => trivial
def AllStable : List (Value → World → Prop) → Prop
  | [] => True
  | s :: ss => StableS s ∧ AllStable ss
theorem AllStable.sel : ∀ {ss : List (Value → World → Prop)}, AllStable ss → ∀ i, StableS (selS ss i)
  | [], _, _ => fun _ _ _ _ _ => trivial
  | _ :: _, h, 0 => h.1
  | _ :: ss, h, n + 1 => AllStable.sel (ss := ss) h.2 n

section
variable (P : Program) (ops : Array Oper) (Q : Exit → Act → World → Prop) (lit : (Nat → Value) → Act) (vs0 : Nat → Value) (S : Nat → Value → World → Prop) (w0 : World)
/-- The step of operation i, from whatever state in which what it waits for is done. -/
def StepOp (i : Nat) (o : Oper) : Prop := ∀ (vs : Nat → Value) (w : World), Step Nil0 w0 w →
  (∀ (k : Nat) (e : Edge), o.after[k]? = some e → Region.binds .any e = true → S e.on (vs e.on) w) →
  (∀ (d : Nat) (od : Oper) (k : Nat) (e : Edge), ops[d]? = some od → od.after[k]? = some e → Region.binds .any e = true → e.on = i → vs d = vs0 d) →
  ∀ K : Act → World → Prop, (∀ v w', Step Nil0 w w' → S i v w' → ∀ a', a' = lit (upd vs i v) → K a' w') →
    if Region.wanted o (yielded ops (lit vs).tmps) = true then Oper.wp P o (lit vs) w K Q else K ((lit vs).put o.dst undef) w
def AllSteps : Nat → List Oper → Prop
  | _, [] => True
  | i, o :: os => StepOp P ops Q lit vs0 S w0 i o ∧ AllSteps (i + 1) os
end

section
variable {P : Program} {Q : Exit → Act → World → Prop} {lit : (Nat → Value) → Act} {vs0 : Nat → Value} {S : Nat → Value → World → Prop} {w0 : World}
theorem AllSteps.get {ops : Array Oper} : ∀ {l : List Oper} {k : Nat}, AllSteps P ops Q lit vs0 S w0 k l → ∀ (j : Nat) (o : Oper), l[j]? = some o → StepOp P ops Q lit vs0 S w0 (k + j) o
  | [], _, _, _, _, h => by simp at h
  | o' :: _, k, hs, 0, o, h => by
    simp at h
    subst h
    exact hs.1
  | _ :: os, k, hs, j + 1, o, h => by
    have := AllSteps.get (l := os) hs.2 j o (by simpa using h)
    rwa [show k + 1 + j = k + (j + 1) from by omega] at this

theorem count_flip (f g : Nat → Bool) (i : Nat) (hf : f i = false) (hg : g i = true) (hfg : ∀ m, m ≠ i → f m = g m) : ∀ m,
    ((List.range m).filter f).length + (if i < m then 1 else 0) = ((List.range m).filter g).length := by
  intro m
  induction m with
  | zero => simp
  | succ m ih =>
    rw [List.range_succ, List.filter_append, List.filter_append, List.length_append, List.length_append]
    by_cases him : i = m
    · subst him
      rw [if_neg (Nat.lt_irrefl i)] at ih
      rw [if_pos (Nat.lt_succ_self i), List.filter_cons, List.filter_cons, hf, hg]
      simp only [List.filter_nil, if_true, List.length_cons, List.length_nil, Bool.false_eq_true, if_false]
      omega
    · by_cases hlt : i < m
      · rw [if_pos hlt] at ih
        rw [if_pos (Nat.lt_succ_of_lt hlt), List.filter_cons, List.filter_cons, hfg m (Ne.symm him)]
        cases g m <;> simp only [List.filter_nil, if_true, List.length_cons, List.length_nil, Bool.false_eq_true, if_false] <;> omega
      · rw [if_neg hlt] at ih
        rw [if_neg (show ¬ i < m + 1 by omega), List.filter_cons, List.filter_cons, hfg m (Ne.symm him)]
        cases g m <;> simp only [List.filter_nil, if_true, List.length_cons, List.length_nil, Bool.false_eq_true, if_false] <;> omega
theorem notDone_count {n i : Nat} {b : Array Bool} (hi : i < n) (hb : b.getD i true = false) (hn : b.size = n) :
    ((List.range n).filter fun j => !(b.setIfInBounds i true).getD j true).length + 1 = ((List.range n).filter fun j => !b.getD j true).length := by
  have := count_flip (fun j => !(b.setIfInBounds i true).getD j true) (fun j => !b.getD j true) i (by
    have h : (b.setIfInBounds i true).getD i true = true := by
      have : i < b.size := by omega
      simp [this]
    simp only [h, Bool.not_true]) (by simp only [hb, Bool.not_false]) (fun m hm => by simp only [getD_set_ne true (Ne.symm hm)]) n
  rw [if_pos hi] at this
  exact this

/-- Every edge goes to an earlier operation. -/
def earlier (l : List Oper) : Bool := (List.range l.length).all fun i => match l[i]? with | some o => o.after.toList.all fun e => decide (e.on < i) | none => true

theorem region_inv {id : Nat} {l : List Oper} {a0 : Act} (lit : (Nat → Value) → Act) (vs0 : Nat → Value) (h0 : a0 = lit vs0) (hm : P.follows .mixedOrders = true) (hearly : earlier l = true)
    (ss : List (Value → World → Prop)) (hst : AllStable ss) (hsteps : AllSteps P l.toArray Q lit vs0 (selS ss) w0 0 l)
    (hend : ∀ (vs : Nat → Value) (w : World), Step Nil0 w0 w → (∀ i, i < l.length → selS ss i (vs i) w) → Q .normal (lit vs) w) :
    (Code.region id l.toArray true).wp P Q a0 w0 := by
  refine wp_region_any hm ?_
  have main : ∀ (fuel : Nat) (b : Array Bool) (vs : Nat → Value) (w : World), b.size = l.length → ((List.range l.length).filter fun j => !b.getD j true).length = fuel → Step Nil0 w0 w →
      (∀ i, i < l.length → b.getD i true = true → selS ss i (vs i) w) → (∀ i, i < l.length → b.getD i true = false → vs i = vs0 i) →
      (∀ (d : Nat) (od : Oper) (k : Nat) (e : Edge), l.toArray[d]? = some od → od.after[k]? = some e → Region.binds .any e = true → b.getD d true = true → b.getD e.on false = true) → wpAny P .any l.toArray Q fuel b (lit vs) w := by
    intro fuel
    induction fuel with
    | zero =>
      intro b vs w hn hc hw hS hU hC
      have hall : ∀ i, i < l.length → b.getD i true = true := by
        intro i hi
        cases hb : b.getD i true with
        | true => rfl
        | false =>
          have : i ∈ (List.range l.length).filter fun j => !b.getD j true := List.mem_filter.2 ⟨List.mem_range.2 hi, by simp only [hb, Bool.not_false]⟩
          rw [List.eq_nil_of_length_eq_zero hc] at this
          cases this
      refine ⟨?_, hend vs w hw (fun i hi => hS i hi (hall i hi))⟩
      refine List.eq_nil_iff_forall_not_mem.2 (fun i hi => ?_)
      rw [mem_ready] at hi
      obtain ⟨h1, o, ho, _⟩ := hi
      have hil : i < l.length := by simpa using (Array.getElem?_eq_some_iff.1 ho).1
      rw [hall i hil] at h1
      cases h1
    | succ fuel ih =>
      intro b vs w hn hc hw hS hU hC
      refine ⟨fun hr => ?_, fun i hi => ?_⟩
      · have hall : ∀ m i, i < m → i < l.length → b.getD i true = true := by
          intro m
          induction m with
          | zero => intro i hi; omega
          | succ m ihm =>
            intro i hi hil
            cases hb : b.getD i true with
            | true => rfl
            | false =>
              exfalso
              have ho : l[i]? = some l[i] := List.getElem?_eq_getElem hil
              have hrd : i ∈ Region.ready .any l.toArray b := by
                rw [mem_ready]
                refine ⟨hb, l[i], by simp, fun e he _ => ?_⟩
                have h1 := List.all_eq_true.1 hearly i (List.mem_range.2 hil)
                rw [ho] at h1
                have h2 := List.all_eq_true.1 h1 e (by simpa using he)
                have h3 : e.on < i := by simpa using h2
                have h4 := ihm e.on (by omega) (by omega)
                have h5 : e.on < b.size := by omega
                simp [h5] at h4 ⊢
                exact h4
              rw [hr] at hrd
              cases hrd
        exact hend vs w hw (fun i hi => hS i hi (hall (i + 1) i (by omega) hi))
      · rw [mem_ready] at hi
        obtain ⟨h1, o, ho, hdep⟩ := hi
        have hil : i < l.length := by simpa using (Array.getElem?_eq_some_iff.1 ho).1
        have hst1 := hsteps.get i o (by simpa using ho)
        rw [Nat.zero_add] at hst1
        refine wpOp_step ho (fun K hK => ?_)
        refine hst1 vs w hw (fun k e he hb => ?_) (fun d od k e hd he hb heq => ?_) K (fun v w' hs hv a' ha' => ?_)
        · have h2 := hdep e (Array.mem_of_getElem? he) hb
          have hlt : e.on < b.size := by
            rcases Nat.lt_or_ge e.on b.size with h | h
            · exact h
            · simp [Array.getElem?_eq_none h] at h2
          refine hS _ (by omega) ?_
          simp [hlt] at h2 ⊢
          exact h2
        · have hdl : d < l.length := by simpa using (Array.getElem?_eq_some_iff.1 hd).1
          refine hU d hdl ?_
          cases hbd : b.getD d true with
          | false => rfl
          | true =>
            have h3 := hC d od k e hd he hb hbd
            rw [heq] at h3
            have : i < b.size := by omega
            simp [this] at h1 h3
            rw [h1] at h3
            cases h3
        · subst ha'
          refine hK _ _ (ih _ _ _ (by simpa using hn) ?_ (hw.then_ hs) (fun j hj hb => ?_) (fun j hj hb => ?_) (fun d od k e hd he hb hbd => ?_))
          · have := notDone_count hil h1 hn
            omega
          · by_cases hji : j = i
            · subst hji; rw [upd_self]; exact hv
            · rw [upd_ne _ _ hji]
              rw [getD_set_ne true (Ne.symm hji)] at hb
              exact hst.sel j _ _ _ hs (hS j hj hb)
          · by_cases hji : j = i
            · subst hji
              have : j < b.size := by omega
              simp [this] at hb
            · rw [upd_ne _ _ hji]
              rw [getD_set_ne true (Ne.symm hji)] at hb
              exact hU j hj hb
          · by_cases hdi : d = i
            · subst hdi
              rw [ho] at hd
              injection hd with hd
              subst hd
              exact getD_set_true (hdep e (Array.mem_of_getElem? he) hb)
            · rw [getD_set_ne true (Ne.symm hdi)] at hbd
              exact getD_set_true (hC d od k e hd he hb hbd)
  subst h0
  exact main _ (Array.replicate l.length false) vs0 _ (by simp) (by
    rw [List.filter_eq_self.2]
    · simp
    · intro j hj
      simp [List.mem_range.1 hj]) ((Step.refl _ _).drew) (fun i hi hb => by simp [hi] at hb) (fun _ _ _ => rfl) (fun d od k e hd _ _ hb => by
      have hdl : d < l.length := by simpa using (Array.getElem?_eq_some_iff.1 hd).1
      simp [hdl] at hb)
end

theorem AllSteps.cons {P : Program} {ops : Array Oper} {Q : Exit → Act → World → Prop} {lit : (Nat → Value) → Act} {vs0 : Nat → Value} {S : Nat → Value → World → Prop} {w0 : World} {i j : Nat} {o : Oper} {os : List Oper} (hj : j = i + 1)
    (h : StepOp P ops Q lit vs0 S w0 i o) (hs : AllSteps P ops Q lit vs0 S w0 j os) : AllSteps P ops Q lit vs0 S w0 i (o :: os) := by subst hj; exact ⟨h, hs⟩
theorem AllSteps.nil {P : Program} {ops : Array Oper} {Q : Exit → Act → World → Prop} {lit : (Nat → Value) → Act} {vs0 : Nat → Value} {S : Nat → Value → World → Prop} {w0 : World} {i : Nat} : AllSteps P ops Q lit vs0 S w0 i [] := trivial
theorem AllStable.cons {s : Value → World → Prop} {ss : List (Value → World → Prop)} (h : StableS s) (hs : AllStable ss) : AllStable (s :: ss) := ⟨h, hs⟩

/-! ### In the walk's own words -/
/-- The value V, whatever the world. -/
def eqS (V : Value) : Value → World → Prop := fun v _ => v = V
theorem stable_eqS (V : Value) : StableS (eqS V) := fun _ _ _ _ h => h
/-- The frame with the region's slots filled: (slot, operation). -/
def litA (a0 : Act) (sl : List (Nat × Nat)) (vs : Nat → Value) : Act := sl.foldl (fun a p => a.put (some p.1) (vs p.2)) a0
def oldV (a0 : Act) (sl : List (Nat × Nat)) : Nat → Value := fun i => match sl.find? (fun p => p.2 == i) with | some p => a0.tmps.getD p.1 undef | none => undef

section
variable {P : Program} {ops : Array Oper} {Q : Exit → Act → World → Prop} {lit : (Nat → Value) → Act} {vs0 : Nat → Value} {S : Nat → Value → World → Prop} {w0 : World} {i : Nat} {o : Oper}
/-- An operation that yields V, and leaves the world as it is. -/
theorem stepDet {V : Value} (hput : ∀ vs v, (lit vs).put o.dst v = lit (upd vs i v)) (hg : o.guard = none) (hS : S i = eqS V)
    (h : ∀ (vs : Nat → Value) (w : World), Step Nil0 w0 w → (∀ (k : Nat) (e : Edge), o.after[k]? = some e → Region.binds .any e = true → S e.on (vs e.on) w) →
      (∀ (d : Nat) (od : Oper) (k : Nat) (e : Edge), ops[d]? = some od → od.after[k]? = some e → Region.binds .any e = true → e.on = i → vs d = vs0 d) →
      (execOp (lit vs).eval o).run P w = .ok (.value V) w) : StepOp P ops Q lit vs0 S w0 i o := by
  intro vs w hw hd hu K hK
  rw [if_pos (by simp [Region.wanted, hg])]
  unfold Oper.wp
  rw [h vs w hw hd hu]
  exact hK V w (Step.refl _ _) (by rw [hS]; rfl) _ (hput vs V)
/-- One that yields a value as S says; only new blocks come. -/
theorem stepVal (hput : ∀ vs v, (lit vs).put o.dst v = lit (upd vs i v)) (hg : o.guard = none)
    (h : ∀ (vs : Nat → Value) (w : World), Step Nil0 w0 w → (∀ (k : Nat) (e : Edge), o.after[k]? = some e → Region.binds .any e = true → S e.on (vs e.on) w) →
      ∃ v w', (execOp (lit vs).eval o).run P w = .ok (.value v) w' ∧ Step Nil0 w w' ∧ S i v w') : StepOp P ops Q lit vs0 S w0 i o := by
  intro vs w hw hd hu K hK
  rw [if_pos (by simp [Region.wanted, hg])]
  obtain ⟨v, w', h1, h2, h3⟩ := h vs w hw hd
  unfold Oper.wp
  rw [h1]
  exact hK v w' h2 h3 _ (hput vs v)
/-- A call, by its contract. -/
theorem stepCall (f : FuncId) (args : (Nat → Value) → Array Value) (hput : ∀ vs v, (lit vs).put o.dst v = lit (upd vs i v)) (hg : o.guard = none)
    (hrun : ∀ (vs : Nat → Value) (w : World), (execOp (lit vs).eval o).run P w = .ok (.enter f (args vs)) w)
    (h : ∀ (vs : Nat → Value) (w : World), Step Nil0 w0 w → (∀ (k : Nat) (e : Edge), o.after[k]? = some e → Region.binds .any e = true → S e.on (vs e.on) w) →
      ∀ R : Ending → World → Prop, (∀ v w', Step Nil0 w w' → S i v w' → R (.returned v) w') → Calls P f (args vs) w R) : StepOp P ops Q lit vs0 S w0 i o := by
  intro vs w hw hd hu K hK
  rw [if_pos (by simp [Region.wanted, hg])]
  unfold Oper.wp
  rw [hrun vs w]
  exact h vs w hw hd _ (fun v w' h2 h3 => hK v w' h2 h3 _ (hput vs v))
theorem region_inv2 {id : Nat} {l : List Oper} {a0 : Act} (sl : List (Nat × Nat)) (lit : (Nat → Value) → Act) (_ : ∀ vs, litA a0 sl vs = lit vs) (h0 : a0 = lit (oldV a0 sl)) (hm : P.follows .mixedOrders = true) (hearly : earlier l = true)
    (ss : List (Value → World → Prop)) (hst : AllStable ss) (hsteps : AllSteps P l.toArray Q lit (oldV a0 sl) (selS ss) w0 0 l)
    (hend : ∀ (vs : Nat → Value) (w : World), Step Nil0 w0 w → (∀ i, i < l.length → selS ss i (vs i) w) → Q .normal (lit vs) w) :
    (Code.region id l.toArray true).wp P Q a0 w0 := region_inv lit (oldV a0 sl) h0 hm hearly ss hst hsteps hend
end
end Go.Proofs.Ytfbpjadigmkkkaa
