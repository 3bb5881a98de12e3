/- Packets in a heap, plain: what up, down, Push, Pop, Remove and Fix make of a list. -/
import Derived.Test.YtjopbglimjhefaaRd
namespace Go.Proofs.Ytjopbglimjhefaa
open Go.RowKit

/-- a packet -/
structure Pk where
  id : Int
  src : Int
  dst : Int
  data : ByteArray
  due : Int
def Pk.zero : Pk := ⟨0, 0, 0, ⟨#[]⟩, 0⟩
def ltP (p q : Pk) : Prop := p.due < q.due ∨ (p.due = q.due ∧ p.id < q.id)
def leP (p q : Pk) : Prop := ¬ ltP q p
instance (p q : Pk) : Decidable (ltP p q) := by unfold ltP; infer_instance
theorem leP.refl (p : Pk) : leP p p := by unfold leP ltP; omega
theorem leP.trans {p q r : Pk} (h : leP p q) (k : leP q r) : leP p r := by unfold leP ltP at *; omega
theorem ltP.le {p q : Pk} (h : ltP p q) : leP p q := by unfold leP ltP at *; omega
theorem leP.of_not {p q : Pk} (h : ¬ ltP p q) : leP q p := h
def pat (l : List Pk) (i : Nat) : Pk := l.getD i Pk.zero
def pswp (l : List Pk) (i j : Nat) : List Pk := (l.set i (pat l j)).set j (pat l i)
theorem pswp_len (l : List Pk) (i j : Nat) : (pswp l i j).length = l.length := by simp [pswp]
theorem pat_lt {l : List Pk} {i : Nat} (h : i < l.length) : pat l i = l[i] := by simp [pat, List.getD, h]
theorem pswp_at (l : List Pk) (i j k : Nat) (hi : i < l.length) (hj : j < l.length) : pat (pswp l i j) k = if k = j then pat l i else if k = i then pat l j else pat l k := by
  unfold pswp pat
  simp only [List.getD_eq_getElem?_getD, List.getElem?_set, List.length_set]
  by_cases h1 : j = k
  · subst h1; simp [hj]
  · have h1' : ¬ k = j := fun e => h1 e.symm
    by_cases h2 : i = k
    · subst h2; simp [h1, h1', hi]
    · have h2' : ¬ k = i := fun e => h2 e.symm
      simp [h1, h1', h2, h2']
theorem pswp_perm (l : List Pk) (i j : Nat) (hi : i < l.length) (hj : j < l.length) : (pswp l i j).Perm l := by
  have h := Array.swap_perm (xs := l.toArray) (i := i) (j := j) (by simpa using hi) (by simpa using hj)
  have h2 := h.toList
  have e : (l.toArray.swap i j (by simpa using hi) (by simpa using hj)).toList = pswp l i j := by
    unfold pswp
    rw [pat_lt hi, pat_lt hj]
    simp [Array.swap]
  rw [e] at h2
  exact h2
/-- l' is l with the first n turned about -/
def PTurn (n : Nat) (l l' : List Pk) : Prop := l'.Perm l ∧ ∀ p, n ≤ p → pat l' p = pat l p
theorem PTurn.refl (n : Nat) (l : List Pk) : PTurn n l l := ⟨List.Perm.refl _, fun _ _ => rfl⟩
theorem PTurn.trans {n : Nat} {l m k : List Pk} (h : PTurn n l m) (h2 : PTurn n m k) : PTurn n l k := ⟨h2.1.trans h.1, fun p hp => (h2.2 p hp).trans (h.2 p hp)⟩
theorem PTurn.len {n : Nat} {l m : List Pk} (h : PTurn n l m) : m.length = l.length := h.1.length_eq
theorem PTurn.swp {n : Nat} (l : List Pk) (i j : Nat) (hi : i < n) (hj : j < n) (hn : n ≤ l.length) : PTurn n l (pswp l i j) :=
  ⟨pswp_perm l i j (by omega) (by omega), fun p hp => by rw [pswp_at l i j p (by omega) (by omega), if_neg (by omega), if_neg (by omega)]⟩
def Child (p c : Nat) : Prop := c = 2 * p + 1 ∨ c = 2 * p + 2
/-- the first n are a heap -/
def Heap (l : List Pk) (n : Nat) : Prop := ∀ p c, Child p c → c < n → leP (pat l p) (pat l c)
/-- .. but for the place r -/
def Exc (l : List Pk) (n r : Nat) : Prop := (∀ p c, Child p c → c < n → p ≠ r → c ≠ r → leP (pat l p) (pat l c)) ∧ ∀ p c, Child p r → Child r c → c < n → leP (pat l p) (pat l c)
/-- r is no greater than what lies under it -/
def Under (l : List Pk) (n r : Nat) : Prop := ∀ c, Child r c → c < n → leP (pat l r) (pat l c)
/-- r is no less than what lies over it -/
def Over (l : List Pk) (r : Nat) : Prop := ∀ p, Child p r → leP (pat l p) (pat l r)
theorem Exc.heap {l : List Pk} {n r : Nat} (h : Exc l n r) (hu : Under l n r) (ho : Over l r) : Heap l n := fun p c hc hn => by
  by_cases h1 : p = r
  · subst h1; exact hu c hc hn
  · by_cases h2 : c = r
    · subst h2; exact ho p hc
    · exact h.1 p c hc hn h1 h2
theorem Exc.down {l : List Pk} {n r c : Nat} (h : Exc l n r) (hl : n ≤ l.length) (hc : Child r c) (hcn : c < n) (hlt : ltP (pat l c) (pat l r)) (hs : ∀ d, Child r d → d < n → leP (pat l c) (pat l d)) : Exc (pswp l r c) n c ∧ Over (pswp l r c) c := by
  unfold Exc Over Child at *
  have e := fun k => pswp_at l r c k (by omega) (by omega)
  have ec : pat (pswp l r c) c = pat l r := by rw [e, if_pos rfl]
  have er : pat (pswp l r c) r = pat l c := by rw [e, if_neg (by omega), if_pos rfl]
  have eo : ∀ k, k ≠ c → k ≠ r → pat (pswp l r c) k = pat l k := fun k h1 h2 => by rw [e, if_neg h1, if_neg h2]
  have main : ∀ p d, (d = 2 * p + 1 ∨ d = 2 * p + 2) → d < n → p ≠ c → d ≠ c → leP (pat (pswp l r c) p) (pat (pswp l r c) d) := fun p d hd hdn hp hdc => by
    by_cases hpr : p = r
    · subst hpr
      rw [er, eo d hdc (by omega)]
      exact hs d hd hdn
    · rw [eo p hp hpr]
      by_cases hdr : d = r
      · subst hdr
        rw [er]; exact h.2 p c hd hc hcn
      · rw [eo d hdc hdr]; exact h.1 p d hd hdn hpr hdr
  refine ⟨⟨fun p d hd hdn hp hdc => main p d hd hdn hp hdc, fun p d hp hd hdn => ?_⟩, fun p hp => ?_⟩
  · obtain rfl : p = r := by omega
    rw [er, eo d (by omega) (by omega)]
    exact h.1 c d hd hdn (by omega) (by omega)
  · obtain rfl : p = r := by omega
    rw [er, ec]; exact hlt.le
theorem Exc.up {l : List Pk} {n j i : Nat} (h : Exc l n j) (hu : Under l n j) (hl : n ≤ l.length) (hjn : j < n) (hi : Child i j) (hlt : ltP (pat l j) (pat l i)) : Exc (pswp l i j) n i ∧ Under (pswp l i j) n i := by
  unfold Exc Under Child at *
  have e := fun k => pswp_at l i j k (by omega) (by omega)
  have ej : pat (pswp l i j) j = pat l i := by rw [e, if_pos rfl]
  have ei : pat (pswp l i j) i = pat l j := by rw [e, if_neg (by omega), if_pos rfl]
  have eo : ∀ k, k ≠ i → k ≠ j → pat (pswp l i j) k = pat l k := fun k h1 h2 => by rw [e, if_neg h2, if_neg h1]
  refine ⟨⟨fun p d hd hdn hp hdi => ?_, fun p d hp hd hdn => ?_⟩, fun d hd hdn => ?_⟩
  · by_cases hpj : p = j
    · subst hpj
      rw [ej, eo d hdi (by omega)]
      exact h.2 i d hi hd hdn
    · rw [eo p hp hpj]
      have hdj : d ≠ j := by omega
      rw [eo d hdi hdj]; exact h.1 p d hd hdn hpj hdj
  · rw [eo p (by omega) (by omega)]
    have hpi := h.1 p i hp (by omega) (by omega) (by omega)
    by_cases hdj : d = j
    · rw [hdj, ej]; exact hpi
    · rw [eo d (by omega) hdj]
      exact hpi.trans (h.1 i d hd hdn (by omega) hdj)
  · rw [ei]
    by_cases hdj : d = j
    · rw [hdj, ej]; exact hlt.le
    · rw [eo d (by omega) hdj]
      exact hlt.le.trans (h.1 i d hd hdn (by omega) hdj)
theorem pat_app (l : List Pk) (p : Pk) (i : Nat) (h : i < l.length) : pat (l ++ [p]) i = pat l i := by
  rw [pat_lt (by simp; omega), pat_lt h, List.getElem_append_left h]
theorem Exc.push {l : List Pk} (h : Heap l l.length) (p : Pk) : Exc (l ++ [p]) (l.length + 1) l.length ∧ Under (l ++ [p]) (l.length + 1) l.length := by
  unfold Exc Under Child at *
  refine ⟨⟨fun a c hc hn ha hcl => ?_, fun a c ha hc hn => by omega⟩, fun c hc hn => by omega⟩
  rw [pat_app l p a (by omega), pat_app l p c (by omega)]
  exact h a c hc (by omega)
theorem Exc.cut {l : List Pk} {n i : Nat} (h : Heap l (n + 1)) (hl : n + 1 ≤ l.length) (hi : i ≤ n) : Exc (pswp l i n) n i := by
  unfold Heap Exc Child at *
  have e := fun k => pswp_at l i n k (by omega) (by omega)
  have eo : ∀ k, k ≠ n → k ≠ i → pat (pswp l i n) k = pat l k := fun k h1 h2 => by rw [e, if_neg h1, if_neg h2]
  refine ⟨fun a c hc hn ha hci => ?_, fun a c ha hc hn => ?_⟩
  · rw [eo a (by omega) ha, eo c (by omega) hci]; exact h a c hc (by omega)
  · rw [eo a (by omega) (by omega), eo c (by omega) (by omega)]
    exact (h a i ha (by omega)).trans (h i c hc (by omega))
theorem Exc.turn {l : List Pk} {n i : Nat} (h : Heap l n) (hi : i < n) (p : Pk) : Exc (l.set i p) n i := by
  unfold Heap Exc Child at *
  have eo : ∀ k, k ≠ i → pat (l.set i p) k = pat l k := fun k h1 => by
    unfold pat
    simp only [List.getD_eq_getElem?_getD, List.getElem?_set, if_neg (fun e => h1 e.symm : ¬ i = k)]
  refine ⟨fun a c hc hn ha hci => ?_, fun a c ha hc hn => ?_⟩
  · rw [eo a ha, eo c hci]; exact h a c hc (by omega)
  · rw [eo a (by omega), eo c (by omega)]
    exact (h a i ha (by omega)).trans (h i c hc (by omega))
theorem Heap.top {l : List Pk} {n : Nat} (h : Heap l n) : ∀ k, k < n → leP (pat l 0) (pat l k) := by
  intro k
  induction k using Nat.strongRecOn with
  | ind k ih =>
    intro hk
    by_cases h0 : k = 0
    · rw [h0]; exact leP.refl _
    · exact (ih ((k - 1) / 2) (by omega) (by omega)).trans (h ((k - 1) / 2) k (by unfold Child; omega) hk)
theorem Heap.less {l : List Pk} {n m : Nat} (h : Heap l n) (hm : m ≤ n) : Heap l m := fun p c hc hn => h p c hc (by omega)
theorem Heap.take {l : List Pk} {n : Nat} (h : Heap l n) (hl : n ≤ l.length) : Heap (l.take n) (l.take n).length := fun p c hc hn => by
  have hn' : c < n := by rw [List.length_take] at hn; omega
  have e : ∀ k, k < n → pat (l.take n) k = pat l k := fun k hk => by
    rw [pat_lt (by rw [List.length_take]; omega), pat_lt (by omega), List.getElem_take]
  rw [e p (by unfold Child at hc; omega), e c hn']
  exact h p c hc hn'
/-- what is at place i goes to the end, the first n are turned about, and the end is cut off -/
theorem cut_perm {l l2 : List Pk} {n i : Nat} (hl : l.length = n + 1) (hi : i ≤ n) (ht : PTurn n (pswp l i n) l2) : (pat l i :: l2.take n).Perm l := by
  have h1 := ht.1.trans (pswp_perm l i n (by omega) (by omega))
  have hlen := h1.length_eq
  have e : l2 = l2.take n ++ [pat l i] := by
    have h2 := ht.2 n (Nat.le_refl _)
    rw [pswp_at l i n n (by omega) (by omega), if_pos rfl, pat_lt (by omega)] at h2
    have h3 : l2.take (n + 1) = l2.take n ++ [l2[n]] := List.take_succ_eq_append_getElem (by omega)
    rw [h2, List.take_of_length_le (by omega)] at h3
    exact h3
  rw [e] at h1
  exact (List.perm_append_singleton _ _).symm.trans h1
end Go.Proofs.Ytjopbglimjhefaa
