/- Trees: which may be, their HTML: plain Lean over the data. -/
import Derived.Test.YtfbpjadigmkkkaaData
import Derived.Test.YtfbpjadigmkkkaaEscP
import Derived.Laws.Strings
namespace Go.Proofs.Ytfbpjadigmkkkaa

def letterB (c : UInt8) : Bool := decide (97 ≤ (c.toNat : Int)) && decide ((c.toNat : Int) ≤ 122)
def textB (c : UInt8) : Bool := !decide ((c.toNat : Int) < 32) && !decide (126 < (c.toNat : Int))
def nameB (c : UInt8) : Bool := letterB c || !(decide ((c.toNat : Int) < 48) || decide (57 < (c.toNat : Int))) || ((c.toNat : Int) == 45)
/-- May it be a text? -/
def isText (s : Str) : Bool := decide (∀ j (h : j < s.size), textB s[j] = true) && decide (s.size ≤ 60)
/-- May it be a name? -/
def isName (s : Str) : Bool := decide (1 ≤ s.size) && decide (s.size ≤ 12) && decide (∀ h : 0 < s.size, letterB s[0] = true) && decide (∀ j (h : j < s.size), nameB s[j] = true)
/-- The void tags. -/
def isVoid (s : Str) : Bool := s.toList == [98, 114] || s.toList == [104, 114] || s.toList == [105, 109, 103] || s.toList == [105, 110, 112, 117, 116]
/-- What makes a list of attributes one that may be, at an element, what stands ahead of it given. -/
def okAttr (pre : List Attr) (x : Attr) : Bool := isName x.name && isText x.value && pre.all (fun a => !(a.name.toList == x.name.toList))
def mayAttrs (l : List Attr) : Bool := decide (∀ i (h : i < l.length), okAttr (l.take i) l[i] = true) && decide (l.length ≤ 8)
def emp (s : Str) : Bool := s.toList.isEmpty

mutual
def mayTree : Tree → Bool
  | ⟨tag, text, key, attrs, kids⟩ =>
    if emp tag then emp key && ((attrs.length == 0) && ((kids.length == 0) && isText text))
    else isName tag && (isText key && (emp text && (mayAttrs attrs && ((!isVoid tag || kids.length == 0) && mayTrees kids))))
def mayTrees : List Tree → Bool
  | [] => true
  | t :: ts => mayTree t && mayTrees ts
end
theorem mayTrees_all : ∀ l, mayTrees l = l.all mayTree
  | [] => rfl
  | t :: ts => by rw [mayTrees, mayTrees_all ts, List.all_cons]
theorem mayTree_text {t : Tree} (h : emp t.tag = true) : mayTree t = (emp t.key && ((t.attrs.length == 0) && ((t.kids.length == 0) && isText t.text))) := by
  obtain ⟨tag, text, key, attrs, kids⟩ := t
  simp only at h
  rw [mayTree, if_pos h]
theorem mayTree_elem {t : Tree} (h : emp t.tag = false) : mayTree t = (isName t.tag && (isText t.key && (emp t.text && (mayAttrs t.attrs && ((!isVoid t.tag || t.kids.length == 0) && t.kids.all mayTree))))) := by
  obtain ⟨tag, text, key, attrs, kids⟩ := t
  simp only at h
  rw [mayTree, if_neg (by rw [h]; decide), mayTrees_all]

/-- No text of a tree, nor of an attribute, is longer than N. -/
def Attr.small (N : Nat) (a : Attr) : Prop := a.name.size ≤ N ∧ a.value.size ≤ N
mutual
def Tree.small (N : Nat) : Tree → Prop
  | ⟨tag, text, key, attrs, kids⟩ => tag.size ≤ N ∧ text.size ≤ N ∧ key.size ≤ N ∧ (∀ a ∈ attrs, a.small N) ∧ smallTrees N kids
def smallTrees (N : Nat) : List Tree → Prop
  | [] => True
  | t :: ts => Tree.small N t ∧ smallTrees N ts
end
theorem smallTrees_iff {N : Nat} : ∀ l : List Tree, smallTrees N l ↔ ∀ t ∈ l, t.small N
  | [] => by simp [smallTrees]
  | t :: ts => by rw [smallTrees, smallTrees_iff ts]; simp
theorem Tree.small_iff {N : Nat} (t : Tree) : t.small N ↔ t.tag.size ≤ N ∧ t.text.size ≤ N ∧ t.key.size ≤ N ∧ (∀ a ∈ t.attrs, a.small N) ∧ ∀ k ∈ t.kids, k.small N := by
  obtain ⟨tag, text, key, attrs, kids⟩ := t
  rw [Tree.small, smallTrees_iff]

/-- A tree's HTML. -/
def htmlA (a : Attr) : List UInt8 := [32] ++ a.name.data.toList ++ [61, 34] ++ escL a.value.data.toList ++ [34]
mutual
def htmlT : Tree → List UInt8
  | ⟨tag, text, _, attrs, kids⟩ =>
    if emp tag then escL text.data.toList
    else [60] ++ tag.data.toList ++ attrs.flatMap htmlA ++ [62] ++ (if isVoid tag then [] else htmlTs kids ++ ([60, 47] ++ tag.data.toList ++ [62]))
def htmlTs : List Tree → List UInt8
  | [] => []
  | t :: ts => htmlT t ++ htmlTs ts
end
theorem htmlTs_flat : ∀ l, htmlTs l = l.flatMap htmlT
  | [] => rfl
  | t :: ts => by rw [htmlTs, htmlTs_flat ts, List.flatMap_cons]
theorem htmlT_text {t : Tree} (h : emp t.tag = true) : htmlT t = escL t.text.data.toList := by
  obtain ⟨tag, text, key, attrs, kids⟩ := t
  simp only at h
  rw [htmlT, if_pos h]
theorem htmlT_elem {t : Tree} (h : emp t.tag = false) : htmlT t = [60] ++ t.tag.data.toList ++ t.attrs.flatMap htmlA ++ [62] ++ (if isVoid t.tag then [] else t.kids.flatMap htmlT ++ ([60, 47] ++ t.tag.data.toList ++ [62])) := by
  obtain ⟨tag, text, key, attrs, kids⟩ := t
  simp only at h
  rw [htmlT, if_neg (by rw [h]; decide), htmlTs_flat]

theorem kid_lt {t k : Tree} (h : k ∈ t.kids) : SizeOf.sizeOf k < SizeOf.sizeOf t := by
  obtain ⟨tag, text, key, attrs, kids⟩ := t
  have := List.sizeOf_lt_of_mem h
  simp only at this
  simp only [Tree.mk.sizeOf_spec]
  omega

/- Are texts neither empty nor beside each other? ('b': stands a text ahead?) -/
mutual
def plainT : Tree → Bool
  | ⟨_, _, _, _, kids⟩ => plainTs false kids
def plainTs : Bool → List Tree → Bool
  | _, [] => true
  | b, t :: ts => !(emp t.tag && (emp t.text || b)) && (plainT t && plainTs (emp t.tag) ts)
end
theorem plainT_eq (t : Tree) : plainT t = plainTs false t.kids := by
  obtain ⟨tag, text, key, attrs, kids⟩ := t
  rw [plainT]

/- How many elements are below each other. -/
mutual
def deepT : Tree → Nat
  | ⟨tag, _, _, _, kids⟩ => (if emp tag then 0 else 1) + deepTs kids
def deepTs : List Tree → Nat
  | [] => 0
  | t :: ts => max (deepT t) (deepTs ts)
end
theorem deepT_eq (t : Tree) : deepT t = (if emp t.tag then 0 else 1) + deepTs t.kids := by
  obtain ⟨tag, text, key, attrs, kids⟩ := t
  rw [deepT]
theorem deepTs_append : ∀ (a b : List Tree), deepTs (a ++ b) = max (deepTs a) (deepTs b)
  | [], b => by simp [deepTs]
  | t :: ts, b => by rw [List.cons_append, deepTs, deepTs_append ts b, deepTs]; omega

theorem str_eq {a b : Str} (h : a.toList = b.toList) : a = b := by
  obtain ⟨⟨a⟩⟩ := a
  obtain ⟨⟨b⟩⟩ := b
  rw [ByteArray.toList_mk, ByteArray.toList_mk] at h
  rw [h]
mutual
def sameT : Tree → Tree → Bool
  | ⟨a1, a2, a3, aa, ak⟩, ⟨b1, b2, b3, ba, bk⟩ => decide (aa = ba) && ((a1.toList == b1.toList) && ((a2.toList == b2.toList) && ((a3.toList == b3.toList) && sameTs ak bk)))
def sameTs : List Tree → List Tree → Bool
  | [], [] => true
  | x :: xs, y :: ys => sameT x y && sameTs xs ys
  | [], _ :: _ => false
  | _ :: _, [] => false
end
mutual
theorem sameT_iff : ∀ a b : Tree, sameT a b = true ↔ a = b
  | ⟨a1, a2, a3, aa, ak⟩, ⟨b1, b2, b3, ba, bk⟩ => by
    rw [sameT]
    simp only [Bool.and_eq_true, decide_eq_true_eq, beq_iff_eq, sameTs_iff ak bk, Tree.mk.injEq]
    constructor
    · rintro ⟨h1, h2, h3, h4, h5⟩
      exact ⟨str_eq h2, str_eq h3, str_eq h4, h1, h5⟩
    · rintro ⟨rfl, rfl, rfl, rfl, rfl⟩
      exact ⟨rfl, rfl, rfl, rfl, rfl⟩
theorem sameTs_iff : ∀ a b : List Tree, sameTs a b = true ↔ a = b
  | [], [] => by simp [sameTs]
  | x :: xs, y :: ys => by
    rw [sameTs]
    simp only [Bool.and_eq_true, sameT_iff x y, sameTs_iff xs ys, List.cons.injEq]
  | [], _ :: _ => by simp [sameTs]
  | _ :: _, [] => by simp [sameTs]
end
instance : DecidableEq Tree := fun a b => decidable_of_iff _ (sameT_iff a b)
end Go.Proofs.Ytfbpjadigmkkkaa
