/- A row of numbers that is written in place; cmp.Less; insertion sort: walked. -/
import Derived.Test.YtifpmcfadmmkiaaDoorSqK
namespace Go.Proofs.YtifpmcfadmmkiaaDoor
open Go.RowKit

/-- block g is a row of the numbers l, and what lies behind -/
def Row (W : World) (g : Nat) (l : List Nat) (rest : List Value) : Prop := W.heap[g]? = some (.cells (l.map encU ++ rest).toArray 35 (0, 0))
theorem Row.cell {W : World} {g : Nat} {l : List Nat} {rest : List Value} (h : Row W g l rest) (j : Nat) (hj : j < l.length) : W.cell? ⟨g, j, none⟩ = some (.int .u64 (l[j] : Nat)) := by
  rw [cell_at h j]
  simp only [List.getElem?_toArray]
  rw [List.getElem?_append_left (by simpa using hj), List.getElem?_map, List.getElem?_eq_getElem hj]
  rfl
theorem Row.free {W : World} {g : Nat} {l : List Nat} {rest : List Value} (h : Row W g l rest) (j : Nat) : W.frozen? ⟨g, j, none⟩ = false := by
  simp [World.frozen?, show W.heap[g]? = _ from h]
theorem Row.set {W : World} {g : Nat} {l : List Nat} {rest : List Value} (h : Row W g l rest) (j : Nat) (hj : j < l.length) (x : Nat) : Row (W.setCell ⟨g, j, none⟩ (.int .u64 x)) g (l.set j x) rest := by
  have h0 : W.heap[g]? = _ := h
  unfold Row
  simp only [World.setCell, Array.getElem?_modify, h0, if_true, Option.map_some]
  have e : (l.map encU ++ rest).toArray.setIfInBounds j (.int .u64 x) = ((l.set j x).map encU ++ rest).toArray := by
    rw [List.setIfInBounds_toArray, List.set_append_left _ _ (by simpa using hj), List.map_set]
    rfl
  rw [← e]
  rfl
theorem Row.drew {W : World} {g : Nat} {l : List Nat} {rest : List Value} (h : Row W g l rest) : Row W.drew g l rest := h
theorem Row.drewN {W : World} {g : Nat} {l : List Nat} {rest : List Value} (h : Row W g l rest) (n : Nat) : Row (W.drewN n) g l rest := h
/-- all that lay in W0 lies as it lay, but for block g -/
def Kept1 (W0 : World) (g : Nat) (W : World) : Prop := W.os = W0.os ∧ W.tape = W0.tape ∧ W.output = W0.output ∧ W0.heap.size ≤ W.heap.size ∧ ∀ k, k < W0.heap.size → k ≠ g → W.heap[k]? = W0.heap[k]?
theorem Kept1.refl (W : World) (g : Nat) : Kept1 W g W := ⟨rfl, rfl, rfl, Nat.le_refl _, fun _ _ _ => rfl⟩
theorem Kept1.trans {W0 W W2 : World} {g : Nat} (h : Kept1 W0 g W) (k : Kept1 W g W2) : Kept1 W0 g W2 :=
  ⟨k.1.trans h.1, k.2.1.trans h.2.1, k.2.2.1.trans h.2.2.1, Nat.le_trans h.2.2.2.1 k.2.2.2.1, fun x hx h1 => (k.2.2.2.2 x (Nat.lt_of_lt_of_le hx h.2.2.2.1) h1).trans (h.2.2.2.2 x hx h1)⟩
theorem Kept1.set {W0 W : World} {g : Nat} (h : Kept1 W0 g W) (j : Nat) (v : Value) : Kept1 W0 g (W.setCell ⟨g, j, none⟩ v) :=
  ⟨h.1, h.2.1, h.2.2.1, by have := h.2.2.2.1; simpa using this, fun k hk h1 => by
    rw [heap_setCell_other W ⟨g, j, none⟩ k v h1]
    exact h.2.2.2.2 k hk h1⟩
theorem Kept1.drewN {W0 W : World} {g : Nat} (h : Kept1 W0 g W) (n : Nat) : Kept1 W0 g (W.drewN n) := ⟨h.1, h.2.1, h.2.2.1, h.2.2.2.1, h.2.2.2.2⟩
/-- the number at place i -/
def at_ (l : List Nat) (i : Nat) : Nat := l.getD i 0
def swp (l : List Nat) (i j : Nat) : List Nat := (l.set i (at_ l j)).set j (at_ l i)
theorem swp_len (l : List Nat) (i j : Nat) : (swp l i j).length = l.length := by simp [swp]
theorem at_lt {l : List Nat} {i : Nat} (h : i < l.length) : at_ l i = l[i] := by simp [at_, List.getD, h]
theorem swp_at (l : List Nat) (i j k : Nat) (hi : i < l.length) (hj : j < l.length) : at_ (swp l i j) k = if k = j then at_ l i else if k = i then at_ l j else at_ l k := by
  unfold swp at_
  simp only [List.getD_eq_getElem?_getD, List.getElem?_set, List.length_set]
  by_cases h1 : j = k
  · subst h1; simp [hj]
  · have h1' : ¬ k = j := fun e => h1 e.symm
    by_cases h2 : i = k
    · subst h2; simp [h1, h1', hi]
    · have h2' : ¬ k = i := fun e => h2 e.symm
      simp [h1, h1', h2, h2']
theorem swp_perm (l : List Nat) (i j : Nat) (hi : i < l.length) (hj : j < l.length) : (swp l i j).Perm l := by
  have h := Array.swap_perm (xs := l.toArray) (i := i) (j := j) (by simpa using hi) (by simpa using hj)
  have h2 := h.toList
  have e : (l.toArray.swap i j (by simpa using hi) (by simpa using hj)).toList = swp l i j := by
    unfold swp
    rw [at_lt hi, at_lt hj]
    simp [Array.swap]
  rw [e] at h2
  exact h2
/-- l' is l with places from a to b turned about, and no other -/
def Turned (a b : Nat) (l l' : List Nat) : Prop := l'.Perm l ∧ ∀ p, p < a ∨ b ≤ p → at_ l' p = at_ l p
theorem Turned.refl (a b : Nat) (l : List Nat) : Turned a b l l := ⟨List.Perm.refl _, fun _ _ => rfl⟩
theorem Turned.trans {a b : Nat} {l m k : List Nat} (h : Turned a b l m) (h2 : Turned a b m k) : Turned a b l k := ⟨h2.1.trans h.1, fun p hp => (h2.2 p hp).trans (h.2 p hp)⟩
theorem Turned.len {a b : Nat} {l m : List Nat} (h : Turned a b l m) : m.length = l.length := h.1.length_eq
theorem Turned.swp {a b : Nat} (l : List Nat) (i j : Nat) (hi : a ≤ i ∧ i < b) (hj : a ≤ j ∧ j < b) (hb : b ≤ l.length) : Turned a b l (swp l i j) :=
  ⟨swp_perm l i j (by omega) (by omega), fun p hp => by rw [swp_at l i j p (by omega) (by omega), if_neg (by omega), if_neg (by omega)]⟩
def SortedOn (l : List Nat) (a b : Nat) : Prop := ∀ p q, a ≤ p → p < q → q < b → at_ l p ≤ at_ l q
/-- sorted from a to i, but for the place j, to which all behind it is greater -/
def Hole (l : List Nat) (a i j : Nat) : Prop := (∀ p q, a ≤ p → p < q → q ≤ i → p ≠ j → q ≠ j → at_ l p ≤ at_ l q) ∧ ∀ q, j < q → q ≤ i → at_ l j ≤ at_ l q
theorem Hole.start {l : List Nat} {a i : Nat} (h : SortedOn l a i) : Hole l a i i := ⟨fun p q h1 h2 h3 h4 h5 => h p q h1 h2 (by omega), fun q h1 h2 => by omega⟩
theorem Hole.step {l : List Nat} {a i j : Nat} (h : Hole l a i j) (hj : a < j) (hji : j ≤ i) (hi : i < l.length) (hlt : at_ l j < at_ l (j - 1)) : Hole (swp l j (j - 1)) a i (j - 1) := by
  have e := fun k => swp_at l j (j - 1) k (by omega) (by omega)
  refine ⟨fun p q h1 h2 h3 h4 h5 => ?_, fun q h1 h2 => ?_⟩
  · rw [e p, e q, if_neg h4, if_neg h5]
    by_cases hp : p = j
    · rw [if_pos hp, if_neg (by omega)]
      exact h.1 (j - 1) q (by omega) (by omega) h3 (by omega) (by omega)
    · rw [if_neg hp]
      by_cases hq : q = j
      · rw [if_pos hq]
        exact h.1 p (j - 1) h1 (by omega) (by omega) hp (by omega)
      · rw [if_neg hq]
        exact h.1 p q h1 h2 h3 hp hq
  · rw [e (j - 1), e q, if_pos rfl, if_neg (by omega)]
    by_cases hq : q = j
    · rw [if_pos hq]; omega
    · rw [if_neg hq]; exact h.2 q (by omega) h2
theorem Hole.done {l : List Nat} {a i j : Nat} (h : Hole l a i j) (hj : j = a ∨ (a < j ∧ ¬ at_ l j < at_ l (j - 1))) (haj : a ≤ j) : SortedOn l a (i + 1) := by
  intro p q h1 h2 h3
  by_cases hp : p = j
  · subst hp; exact h.2 q h2 (by omega)
  · by_cases hq : q = j
    · subst hq
      rcases hj with rfl | ⟨hj1, hj2⟩
      · omega
      · by_cases hp2 : p = q - 1
        · subst hp2; omega
        · have := h.1 p (q - 1) h1 (by omega) (by omega) hp (by omega)
          omega
    · exact h.1 p q h1 h2 (by omega) hp hq
end Go.Proofs.YtifpmcfadmmkiaaDoor
