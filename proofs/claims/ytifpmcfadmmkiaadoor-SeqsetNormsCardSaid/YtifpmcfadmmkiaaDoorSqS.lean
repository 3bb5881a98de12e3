/- What the parts of pdqsort say, in plain lists: heaps, partitions, what is done and what is left. -/
import Derived.Test.YtifpmcfadmmkiaaDoorSqM
namespace Go.Proofs.YtifpmcfadmmkiaaDoor
open Go.RowKit

theorem mid_perm {a b : Nat} {l l' : List Nat} (h : Turned a b l l') (hab : a ≤ b) : ((l'.take b).drop a).Perm ((l.take b).drop a) := by
  have hlen := h.len
  have e1 : l'.take a = l.take a := by
    apply List.ext_getElem
    · simp [hlen]
    · intro i h1 h2
      simp only [List.length_take] at h1 h2
      have := h.2 i (.inl (by omega))
      rw [at_lt (by omega), at_lt (by omega)] at this
      simpa using this
  have e2 : l'.drop b = l.drop b := by
    apply List.ext_getElem
    · simp [hlen]
    · intro i h1 h2
      simp only [List.length_drop] at h1 h2
      have := h.2 (b + i) (.inr (by omega))
      rw [at_lt (by omega), at_lt (by omega)] at this
      simpa using this
  have d : ∀ (m : List Nat), m.take a ++ ((m.take b).drop a ++ m.drop b) = m := fun m => by
    have e : m.take a = (m.take b).take a := by rw [List.take_take, Nat.min_eq_left hab]
    rw [← List.append_assoc, e, List.take_append_drop, List.take_append_drop]
  have hp : (l'.take a ++ ((l'.take b).drop a ++ l'.drop b)).Perm (l.take a ++ ((l.take b).drop a ++ l.drop b)) := by rw [d l', d l]; exact h.1
  rw [e1, e2] at hp
  exact (List.perm_append_right_iff _).1 ((List.perm_append_left_iff _).1 hp)
/-- what holds of all in between holds of them turned about -/
theorem Turned.all {a b : Nat} {l l' : List Nat} (h : Turned a b l l') (hb : b ≤ l.length) (Pr : Nat → Prop) (hp : ∀ q, a ≤ q → q < b → Pr (at_ l q)) : ∀ q, a ≤ q → q < b → Pr (at_ l' q) := by
  intro q h1 h2
  have hlen := h.len
  have hm : at_ l' q ∈ (l'.take b).drop a := by
    rw [at_lt (by omega)]
    refine List.mem_iff_getElem.2 ⟨q - a, by simp; omega, ?_⟩
    simp only [List.getElem_drop, List.getElem_take]
    congr 1; omega
  have hm2 := (mid_perm h (by omega)).mem_iff.1 hm
  obtain ⟨i, hi, e⟩ := List.mem_iff_getElem.1 hm2
  simp only [List.length_drop, List.length_take] at hi
  simp only [List.getElem_drop, List.getElem_take] at e
  have := hp (a + i) (by omega) (by omega)
  rw [at_lt (by omega), e] at this
  exact this
theorem Turned.wide {a b c d : Nat} {l l' : List Nat} (h : Turned a b l l') (h1 : c ≤ a) (h2 : b ≤ d) : Turned c d l l' := ⟨h.1, fun p hp => h.2 p (by omega)⟩
/-! heaps -/
def HeapAt (l : List Nat) (f hi k : Nat) : Prop := ∀ c, c = 2 * k + 1 ∨ c = 2 * k + 2 → c < hi → at_ l (f + c) ≤ at_ l (f + k)
def HeapFrom (l : List Nat) (f lo hi : Nat) : Prop := ∀ k, lo ≤ k → HeapAt l f hi k
def Sift (l : List Nat) (f lo hi r : Nat) : Prop := (∀ k, lo ≤ k → k ≠ r → HeapAt l f hi k) ∧ ∀ p, lo ≤ p → (r = 2 * p + 1 ∨ r = 2 * p + 2) → ∀ c, c = 2 * r + 1 ∨ c = 2 * r + 2 → c < hi → at_ l (f + c) ≤ at_ l (f + p)
theorem Sift.start {l : List Nat} {f lo hi : Nat} (h : HeapFrom l f (lo + 1) hi) : Sift l f lo hi lo := ⟨fun k h1 h2 => h k (by omega), fun p h1 h2 => by omega⟩
theorem Sift.done {l : List Nat} {f lo hi r : Nat} (h : Sift l f lo hi r) (hc : HeapAt l f hi r) : HeapFrom l f lo hi := fun k hk => by
  by_cases e : k = r
  · rw [e]; exact hc
  · exact h.1 k hk e
theorem Sift.step {l : List Nat} {f lo hi r c : Nat} (h : Sift l f lo hi r) (hlr : lo ≤ r) (hl : f + hi ≤ l.length) (hc : c = 2 * r + 1 ∨ c = 2 * r + 2) (hch : c < hi) (hlt : at_ l (f + r) < at_ l (f + c)) (ho : ∀ d, d = 2 * r + 1 ∨ d = 2 * r + 2 → d < hi → at_ l (f + d) ≤ at_ l (f + c)) : Sift (swp l (f + r) (f + c)) f lo hi c := by
  have e := fun k => swp_at l (f + r) (f + c) k (by omega) (by omega)
  have ec : at_ (swp l (f + r) (f + c)) (f + c) = at_ l (f + r) := by rw [e, if_pos rfl]
  have er : at_ (swp l (f + r) (f + c)) (f + r) = at_ l (f + c) := by rw [e, if_neg (by omega), if_pos rfl]
  have eo : ∀ k, k ≠ c → k ≠ r → at_ (swp l (f + r) (f + c)) (f + k) = at_ l (f + k) := fun k h1 h2 => by rw [e, if_neg (by omega), if_neg (by omega)]
  refine ⟨fun k hk hkc d hd hdh => ?_, fun p hp hcp d hd hdh => ?_⟩
  · by_cases hkr : k = r
    · subst hkr
      rw [er]
      by_cases hdc : d = c
      · rw [hdc, ec]; omega
      · rw [eo d hdc (by omega)]; exact ho d hd hdh
    · rw [eo k hkc hkr]
      by_cases hdr : d = r
      · rw [hdr, er]
        exact h.2 k hk (by omega) c hc hch
      · rw [eo d (by omega) hdr]
        exact h.1 k hk hkr d hd hdh
  · obtain rfl : p = r := by omega
    rw [er, eo d (by omega) (by omega)]
    exact h.1 c (by omega) (by omega) d hd hdh
theorem heap_top {l : List Nat} {f hi : Nat} (h : HeapFrom l f 0 hi) : ∀ k, k < hi → at_ l (f + k) ≤ at_ l f := by
  intro k
  induction k using Nat.strongRecOn with
  | ind k ih =>
    intro hk
    by_cases h0 : k = 0
    · rw [h0]; exact Nat.le_refl _
    · have h1 := h ((k - 1) / 2) (Nat.zero_le _) k (by omega) hk
      have h2 := ih ((k - 1) / 2) (by omega) (by omega)
      omega
theorem heap_none {l : List Nat} {f hi k : Nat} (h : hi ≤ 2 * k + 1) : HeapFrom l f k hi := fun j hj c hc hch => by omega
/-- from place m on all is where it belongs, and no less than what lies before -/
def Tail (l : List Nat) (a b m : Nat) : Prop := ∀ p q, a ≤ p → p < q → q < b → m ≤ q → at_ l p ≤ at_ l q
theorem heap_pop1 {l : List Nat} {a i : Nat} (h : HeapFrom l a 0 (i + 1)) (hl : a + i < l.length) : HeapFrom (swp l a (a + i)) a 1 i := fun k hk c hc hch => by
  rw [swp_at l a (a + i) _ (by omega) hl, swp_at l a (a + i) _ (by omega) hl, if_neg (by omega), if_neg (by omega), if_neg (by omega), if_neg (by omega)]
  exact h k (Nat.zero_le _) c hc (by omega)
theorem heap_pop2 {l l2 : List Nat} {a b i : Nat} (h : HeapFrom l a 0 (i + 1)) (ht : Tail l a b (a + i + 1)) (hib : a + i < b) (hl : b ≤ l.length) (h2 : Turned a (a + i) (swp l a (a + i)) l2) : Tail l2 a b (a + i) := by
  have e := fun k => swp_at l a (a + i) k (by omega) (by omega)
  have hin : ∀ (Pr : Nat → Prop), (∀ p, a ≤ p → p ≤ a + i → Pr (at_ l p)) → ∀ p, a ≤ p → p < a + i → Pr (at_ l2 p) := fun Pr hp => h2.all (by rw [swp_len]; omega) Pr (fun q h1 h3 => by
    rw [e]
    split
    · exact hp a (by omega) (by omega)
    · split
      · exact hp (a + i) (by omega) (by omega)
      · exact hp q h1 (by omega))
  have hq : ∀ q, a + i < q → at_ l2 q = at_ l q := fun q h1 => by rw [h2.2 q (by omega), e, if_neg (by omega), if_neg (by omega)]
  have htop : at_ l2 (a + i) = at_ l a := by rw [h2.2 (a + i) (by omega), e, if_pos rfl]
  intro p q h1 h3 h4 h5
  by_cases hqi : q = a + i
  · rw [hqi, htop]
    exact hin (· ≤ at_ l a) (fun p h6 h7 => by
      have := heap_top h (p - a) (by omega)
      rwa [Nat.add_sub_cancel' h6] at this) p h1 (by omega)
  · rw [hq q (by omega)]
    by_cases hp : a + i < p
    · rw [hq p hp]; exact ht p q h1 h3 h4 (by omega)
    · by_cases hpi : p = a + i
      · rw [hpi, htop]; exact ht a q (Nat.le_refl _) (by omega) h4 (by omega)
      · exact hin (· ≤ at_ l q) (fun p h6 h7 => ht p q h6 (by omega) h4 (by omega)) p h1 (by omega)
/-! partitions -/
def PartL (l : List Nat) (a i : Nat) : Prop := ∀ p, a < p → p < i → at_ l p < at_ l a
def PartR (l : List Nat) (a j b : Nat) : Prop := ∀ p, j < p → p < b → at_ l a ≤ at_ l p
def Parted (l : List Nat) (a b m : Nat) : Prop := (∀ p, a ≤ p → p < m → at_ l p ≤ at_ l m) ∧ ∀ p, m < p → p < b → at_ l m ≤ at_ l p
theorem PartL.more {l : List Nat} {a i : Nat} (h : PartL l a i) (hi : at_ l i < at_ l a) : PartL l a (i + 1) := fun p h1 h2 => by
  by_cases e : p = i
  · rw [e]; exact hi
  · exact h p h1 (by omega)
theorem PartR.more {l : List Nat} {a j b : Nat} (h : PartR l a (j + 1) b) (hj : ¬ at_ l (j + 1) < at_ l a) : PartR l a j b := fun p h1 h2 => by
  by_cases e : p = j + 1
  · rw [e]; omega
  · exact h p (by omega) h2
theorem part_swap {l : List Nat} {a b i j : Nat} (hL : PartL l a i) (hR : PartR l a j b) (hai : a < i) (hij : i < j) (hjb : j < b) (hb : b ≤ l.length) (h1 : ¬ at_ l i < at_ l a) (h2 : at_ l j < at_ l a) : PartL (swp l i j) a (i + 1) ∧ PartR (swp l i j) a (j - 1) b := by
  have e := fun k => swp_at l i j k (by omega) (by omega)
  have ea : at_ (swp l i j) a = at_ l a := by rw [e, if_neg (by omega), if_neg (by omega)]
  refine ⟨fun p h3 h4 => ?_, fun p h3 h4 => ?_⟩
  · rw [ea, e, if_neg (by omega)]
    split
    · exact h2
    · exact hL p h3 (by omega)
  · rw [ea, e]
    split
    · omega
    · rw [if_neg (by omega)]; exact hR p (by omega) h4
theorem part_done {l : List Nat} {a b j : Nat} (hL : PartL l a (j + 1)) (hR : PartR l a j b) (haj : a ≤ j) (hjb : j < b) (hb : b ≤ l.length) : Parted (swp l j a) a b j := by
  have e := fun k => swp_at l j a k (by omega) (by omega)
  have ej : at_ (swp l j a) j = at_ l a := by
    rw [e]
    split
    · rename_i h; rw [h]
    · rw [if_pos rfl]
  refine ⟨fun p h1 h2 => ?_, fun p h1 h2 => ?_⟩
  · rw [ej, e]
    split
    · exact Nat.le_of_lt (hL j (by omega) (by omega))
    · rw [if_neg (by omega)]; exact Nat.le_of_lt (hL p (by omega) (by omega))
  · rw [ej, e, if_neg (by omega), if_neg (by omega)]; exact hR p h1 h2
def EqL (l : List Nat) (a i : Nat) : Prop := ∀ p, a ≤ p → p < i → at_ l p ≤ at_ l a
def EqR (l : List Nat) (a j b : Nat) : Prop := ∀ p, j < p → p < b → at_ l a < at_ l p
theorem EqL.more {l : List Nat} {a i : Nat} (h : EqL l a i) (hi : ¬ at_ l a < at_ l i) : EqL l a (i + 1) := fun p h1 h2 => by
  by_cases e : p = i
  · rw [e]; omega
  · exact h p h1 (by omega)
theorem EqR.more {l : List Nat} {a j b : Nat} (h : EqR l a (j + 1) b) (hj : at_ l a < at_ l (j + 1)) : EqR l a j b := fun p h1 h2 => by
  by_cases e : p = j + 1
  · rw [e]; omega
  · exact h p (by omega) h2
theorem eq_swap {l : List Nat} {a b i j : Nat} (hL : EqL l a i) (hR : EqR l a j b) (hai : a < i) (hij : i < j) (hjb : j < b) (hb : b ≤ l.length) (h1 : at_ l a < at_ l i) (h2 : ¬ at_ l a < at_ l j) : EqL (swp l i j) a (i + 1) ∧ EqR (swp l i j) a (j - 1) b := by
  have e := fun k => swp_at l i j k (by omega) (by omega)
  have ea : at_ (swp l i j) a = at_ l a := by rw [e, if_neg (by omega), if_neg (by omega)]
  refine ⟨fun p h3 h4 => ?_, fun p h3 h4 => ?_⟩
  · rw [ea, e, if_neg (by omega)]
    split
    · omega
    · exact hL p h3 (by omega)
  · rw [ea, e]
    split
    · omega
    · rw [if_neg (by omega)]; exact hR p (by omega) h4
/-! what is done, and what is left -/
def Low (l : List Nat) (a b : Nat) : Prop := ∀ q, 0 < a → a ≤ q → q < b → at_ l (a - 1) ≤ at_ l q
def Out (l : List Nat) (c d a b : Nat) : Prop := ∀ p q, c ≤ p → p < q → q < d → p < a ∨ b ≤ q → at_ l p ≤ at_ l q
theorem Low.turned {l l' : List Nat} {a b : Nat} (h : Low l a b) (ht : Turned a b l l') (hb : b ≤ l.length) : Low l' a b := fun q h0 h1 h2 => by
  rw [ht.2 (a - 1) (by omega)]
  exact ht.all hb (at_ l (a - 1) ≤ ·) (fun q => h q h0) q h1 h2
theorem Out.turned {l l' : List Nat} {c d a b : Nat} (h : Out l c d a b) (ht : Turned a b l l') (hb : b ≤ l.length) (hbd : b ≤ d) (hca : c ≤ a) : Out l' c d a b := fun p q h1 h2 h3 h4 => by
  by_cases hp : p < a
  · rw [ht.2 p (.inl hp)]
    by_cases hq : a ≤ q ∧ q < b
    · exact ht.all hb (at_ l p ≤ ·) (fun q h5 h6 => h p q h1 (by omega) (by omega) (.inl hp)) q hq.1 hq.2
    · rw [ht.2 q (by omega)]; exact h p q h1 h2 h3 h4
  · have hq : b ≤ q := by omega
    rw [ht.2 q (.inr hq)]
    by_cases hpb : p < b
    · exact ht.all hb (· ≤ at_ l q) (fun p h5 h6 => h p q (by omega) (by omega) h3 (.inr hq)) p (by omega) hpb
    · rw [ht.2 p (by omega)]; exact h p q h1 h2 h3 h4
/-- how pdqsort stands: l0 turned about between c and d; what lies without a and b is where it belongs -/
structure Inv (l0 l : List Nat) (c d a b : Nat) : Prop where
  turned : Turned c d l0 l
  out : Out l (c - 1) d a b
  ca : c ≤ a
  ab : a ≤ b
  bd : b ≤ d
theorem Inv.start {l : List Nat} {a b : Nat} (hab : a ≤ b) (h : Low l a b) : Inv l l a b a b :=
  ⟨Turned.refl _ _ _, fun p q h1 h2 h3 h4 => by
    obtain rfl : p = a - 1 := by omega
    exact h q (by omega) (by omega) h3, Nat.le_refl _, hab, Nat.le_refl _⟩
theorem Inv.low {l0 l : List Nat} {c d a b : Nat} (h : Inv l0 l c d a b) : Low l a b := fun q h0 h1 h2 => h.out (a - 1) q (by have := h.ca; omega) (by omega) (by have := h.bd; omega) (.inl (by omega))
theorem Inv.len {l0 l : List Nat} {c d a b : Nat} (h : Inv l0 l c d a b) : l.length = l0.length := h.turned.len
theorem Inv.next {l0 l l' : List Nat} {c d a b : Nat} (h : Inv l0 l c d a b) (hd : d ≤ l0.length) (ht : Turned a b l l') : Inv l0 l' c d a b :=
  ⟨h.turned.trans (ht.wide h.ca h.bd), h.out.turned ht (by have := h.len; have := h.bd; omega) h.bd (by have := h.ca; omega), h.ca, h.ab, h.bd⟩
theorem Inv.sorted {l0 l : List Nat} {c d a b : Nat} (h : Inv l0 l c d a b) (hs : SortedOn l a b) : Turned c d l0 l ∧ SortedOn l c d :=
  ⟨h.turned, fun p q h1 h2 h3 => by
    by_cases hp : p < a ∨ b ≤ q
    · exact h.out p q (by omega) h2 h3 hp
    · exact hs p q (by omega) h2 (by omega)⟩
theorem Inv.left {l0 l : List Nat} {c d a b m : Nat} (h : Inv l0 l c d a b) (hp : Parted l a b m) (ham : a ≤ m) (hmb : m < b) (hs : SortedOn l a m) : Inv l0 l c d (m + 1) b :=
  ⟨h.turned, fun p q h1 h2 h3 h4 => by
    by_cases hpa : p < a ∨ b ≤ q
    · exact h.out p q h1 h2 h3 hpa
    · by_cases hpm : p = m
      · rw [hpm]; exact hp.2 q (by omega) (by omega)
      · by_cases hqm : q < m
        · exact hs p q (by omega) h2 hqm
        · have g1 := hp.1 p (by omega) (by omega)
          by_cases hq : q = m
          · rw [hq]; exact g1
          · exact Nat.le_trans g1 (hp.2 q (by omega) (by omega)), by have := h.ca; omega, by omega, h.bd⟩
theorem Inv.right {l0 l : List Nat} {c d a b m : Nat} (h : Inv l0 l c d a b) (hp : Parted l a b m) (ham : a ≤ m) (hmb : m < b) (hs : SortedOn l (m + 1) b) : Inv l0 l c d a m :=
  ⟨h.turned, fun p q h1 h2 h3 h4 => by
    by_cases hpa : p < a ∨ b ≤ q
    · exact h.out p q h1 h2 h3 hpa
    · by_cases hqm : q = m
      · rw [hqm]; exact hp.1 p (by omega) (by omega)
      · by_cases hpm : m < p
        · exact hs p q (by omega) h2 (by omega)
        · have g1 := hp.2 q (by omega) (by omega)
          by_cases hq : p = m
          · rw [hq]; exact g1
          · exact Nat.le_trans (hp.1 p (by omega) (by omega)) g1, h.ca, ham, by have := h.bd; omega⟩
theorem Inv.eq {l0 l : List Nat} {c d a b m x : Nat} (h : Inv l0 l c d a b) (hx : ∀ q, a ≤ q → q < b → x ≤ at_ l q) (ham : a ≤ m) (hmb : m ≤ b) (h1 : ∀ p, a ≤ p → p < m → at_ l p ≤ x) : Inv l0 l c d m b :=
  ⟨h.turned, fun p q h2 h3 h4 h5 => by
    by_cases hpa : p < a ∨ b ≤ q
    · exact h.out p q h2 h3 h4 hpa
    · exact Nat.le_trans (h1 p (by omega) (by omega)) (hx q (by omega) (by omega)), by have := h.ca; omega, hmb, h.bd⟩
theorem Parted.turnL {l l' : List Nat} {a b m : Nat} (h : Parted l a b m) (hm : m ≤ l.length) (ht : Turned a m l l') : Parted l' a b m :=
  ⟨fun p h1 h2 => by
    rw [ht.2 m (.inr (Nat.le_refl _))]
    exact ht.all hm (· ≤ at_ l m) h.1 p h1 h2, fun p h1 h2 => by
    rw [ht.2 m (.inr (Nat.le_refl _)), ht.2 p (.inr (by omega))]
    exact h.2 p h1 h2⟩
theorem Parted.turnR {l l' : List Nat} {a b m : Nat} (h : Parted l a b m) (hb : b ≤ l.length) (ht : Turned (m + 1) b l l') : Parted l' a b m :=
  ⟨fun p h1 h2 => by
    rw [ht.2 m (.inl (by omega)), ht.2 p (.inl (by omega))]
    exact h.1 p h1 h2, fun p h1 h2 => by
    rw [ht.2 m (.inl (by omega))]
    exact ht.all hb (at_ l m ≤ ·) (fun q h3 h4 => h.2 q (by omega) h4) p (by omega) h2⟩
end Go.Proofs.YtifpmcfadmmkiaaDoor
