/- cmp.Less; insertion sort: walked. What the parts of pdqsort say, in plain lists: heaps, partitions, what is done and what is left. pdqsort's parts: a swap in place; siftDown: walked. heapSort, reverseRange: walked. -/
import Derived.Test.YtcnebfmlelcliaaB12
import Derived.BigRegion
namespace Go.Proofs.Ytcnebfmlelcliaa
open Go.RowKit

set_option maxHeartbeats 1000000 in
theorem isNaN_any (x : Nat) (w : World) : Calls Try.prog 91 #[.int .u64 x] w fun e w' => e = .returned (.bool false) ∧ w' = w := by
  go_enter Try.func91, Try.ntmps91
  go_wp2_with fail
  go_ret
  exact ⟨by simp, rfl⟩
set_option maxHeartbeats 1000000 in
theorem less_any (x y : Nat) (w : World) : Calls Try.prog 78 #[.int .u64 x, .int .u64 y] w fun e w' => e = .returned (.bool (decide (x < y))) ∧ w' = w := by
  have h1 := Lib.hid (fun w => isNaN_any x w)
  go_enter Try.func78, Try.ntmps78
  go_wp2_with fail
  refine (h1.out _).mono ?_
  rintro e w1 ⟨rfl, rfl⟩
  go_wp2_with fail
  go_ret
  exact ⟨by simp, rfl⟩
set_option maxRecDepth 100000 in
set_option maxHeartbeats 4000000 in
theorem insertion_any (g cap : Nat) (l0 : List Nat) (rest : List Value) (a b : Nat) (hab : a ≤ b) (hbl : b ≤ l0.length) (hlen : l0.length ≤ 4611686018427387904) (W0 : World) (hr : Row W0 g l0 rest) :
    Calls Try.prog 72 #[.slice (some ⟨g, 0, none⟩) l0.length cap, .int .i64 a, .int .i64 b] W0 fun e W' => e = .returned (.tuple #[]) ∧ ∃ l', Hid (Row W' g l' rest) ∧ Hid (Turned a b l0 l' ∧ SortedOn l' a b) ∧ Hid (Kept1 W0 g W') := by
  replace hr := Lib.hid hr
  have hle := Lib.hid less_any
  go_enter Try.func72, Try.ntmps72
  go_wp2_with fail
  go_loopw [6] (fun v6 wr => ∃ (i : Nat) (l : List Nat), v6 = .int .i64 i ∧ a + 1 ≤ i ∧ (i ≤ b ∨ i = a + 1) ∧ Hid (Row wr g l rest) ∧ Hid (Turned a b l0 l ∧ SortedOn l a i) ∧ Hid (Kept1 W0 g wr)) (fun v6 _ => b - (intOf v6).toNat)
  case atStart => exact ⟨a + 1, l0, by go_num, Nat.le_refl _, .inr rfl, hr, Lib.hid ⟨Turned.refl _ _ _, fun p q h1 h2 h3 => by omega⟩, Lib.hid (Kept1.refl _ _)⟩
  case round =>
    obtain ⟨i, l, rfl, hi, hi2, hrow, hts, hk⟩ := hrel
    by_cases hlt : i < b
    · have hll := Lib.hid hts.out.1.len
      go_wp2_with fail
      go_loopw [7] (fun v7 wr => ∃ (j : Nat) (l : List Nat), v7 = .int .i64 j ∧ a ≤ j ∧ j ≤ i ∧ Hid (Row wr g l rest) ∧ Hid (Turned a b l0 l ∧ Hole l a i j) ∧ Hid (Kept1 W0 g wr)) (fun v7 _ => (intOf v7).toNat)
      case atStart => exact ⟨i, l, rfl, by omega, Nat.le_refl _, hrow, Lib.hid ⟨hts.out.1, Hole.start hts.out.2⟩, hk⟩
      case round =>
        clear hrow hts hk hll
        obtain ⟨j, l, rfl, haj, hji, hrow, hts, hk⟩ := hrel
        have hll := hts.out.1.len
        by_cases hj : a < j
        · obtain ⟨k, rfl⟩ : ∃ k, j = k + 1 := ⟨j - 1, by omega⟩
          have c1 := hrow.out.cell (k + 1) (by omega)
          have c0 := hrow.out.cell k (by omega)
          have f1 := hrow.out.free (k + 1)
          have f0 := hrow.out.free k
          have e1 : at_ l (k + 1) = l[k + 1] := at_lt (by omega)
          have e0 : at_ l k = l[k] := at_lt (by omega)
          rw [← e1] at c1
          rw [← e0] at c0
          have hsw := fun W (h : Row W g l rest) => (h.set (k + 1) (by omega) (at_ l k)).set k (by rw [List.length_set]; omega) (at_ l (k + 1))
          have hks := fun (W : World) (h : Kept1 W0 g W) => (h.set (k + 1) (.int .u64 (at_ l k))).set k (.int .u64 (at_ l (k + 1)))
          have hyes : at_ l (k + 1) < at_ l k → Turned a b l0 (swp l (k + 1) k) ∧ Hole (swp l (k + 1) k) a i k := fun h => ⟨hts.out.1.trans (Turned.swp l (k + 1) k ⟨by omega, by omega⟩ ⟨by omega, by omega⟩ (by omega)), by
            have := hts.out.2.step hj hji (by omega) (by simpa using h)
            simpa using this⟩
          have hno : ¬ at_ l (k + 1) < at_ l k → Turned a b l0 l ∧ SortedOn l a (i + 1) := fun h => ⟨hts.out.1, hts.out.2.done (.inr ⟨hj, by simpa using h⟩) haj⟩
          have hsw' : ∀ W, Row W g l rest → Row ((W.setCell ⟨g, k + 1, none⟩ (.int .u64 (at_ l k))).setCell ⟨g, k, none⟩ (.int .u64 (at_ l (k + 1)))) g (swp l (k + 1) k) rest := hsw
          clear hsw
          have hcmp := Lib.hid (fun n => hle.out (at_ l (k + 1)) (at_ l k) (wr.drewN n))
          have hi0 : (0 : Int) ≤ (k : Int) := by omega
          have hi1 : (k : Int) + 1 < (l0.length : Int) := by omega
          have hi2' : (k : Int) < (l0.length : Int) := by omega
          have hd : decide ((a : Int) < (k : Int) + 1) = true := by simp; omega
          clear e1 e0 hts
          generalize swp l (k + 1) k = ls at hsw' hyes
          generalize at_ l (k + 1) = x at c1 hsw' hks hyes hno hcmp
          generalize at_ l k = y at c0 hsw' hks hyes hno hcmp
          by_cases hxy : x < y
          · have hh := Lib.hid (hyes hxy)
            rw [decide_eq_true hxy] at hcmp
            replace hsw' := Lib.hid hsw'
            replace hks := Lib.hid hks
            clear hyes hno hxy
            go_wp2_with fail
            go_quiet ((go_at_call 78; exact Calls.quiet_of_same (hcmp.out _)))
            have hrow2 := Lib.hid (hrow.out.drewN nq)
            have hk2 := Lib.hid (hk.out.drewN nq)
            have c1 : (wr.drewN nq).cell? ⟨g, k + 1, none⟩ = some (.int .u64 x) := c1
            have c0 : (wr.drewN nq).cell? ⟨g, k, none⟩ = some (.int .u64 y) := c0
            have f1 : (wr.drewN nq).frozen? ⟨g, k + 1, none⟩ = false := f1
            have f0 : (wr.drewN nq).frozen? ⟨g, k, none⟩ = false := f0
            generalize wr.drewN nq = w2 at hrow2 hk2 c1 c0 f1 f0 ⊢
            go_wp2_with fail
            go_region
            have hrow3 := Lib.hid (hsw'.out w2 hrow2.out).drew
            have hk3 := Lib.hid ((hks.out w2 hk2.out).drewN 1)
            clear hrow hk hcmp hrow2 hk2 hsw' hks c1 c0 f1 f0
            generalize hW3 : ((w2.setCell ⟨g, k + 1, none⟩ (.int .u64 y)).setCell ⟨g, k, none⟩ (.int .u64 x)).drew = w3 at hrow3 ⊢
            have hk4 : Hid (Kept1 W0 g w3) := by rw [← hW3]; exact hk3
            clear hk3 hW3
            go_wp2_with fail
            go_roundw
            case rel => exact ⟨k, ls, rfl, by omega, by omega, hrow3, hh, hk4⟩
            case measure => simp [intOf] <;> omega
          · have hh := Lib.hid (hno hxy)
            rw [decide_eq_false hxy] at hcmp
            clear hyes hno hxy hsw' hks
            go_wp2_with fail
            go_quiet ((go_at_call 78; exact Calls.quiet_of_same (hcmp.out _)))
            have hrow2 := Lib.hid (hrow.out.drewN nq)
            have hk2 := Lib.hid (hk.out.drewN nq)
            generalize wr.drewN nq = w2 at hrow2 hk2 ⊢
            clear hcmp hrow hk c1 c0 f1 f0
            go_wp2_with fail
            go_roundw
            case rel => exact ⟨i + 1, l, by go_num, by omega, .inl (by omega), hrow2, hh, hk2⟩
            case measure => simp [intOf] <;> omega
        · obtain rfl : j = a := by omega
          have hh := Lib.hid (And.intro hts.out.1 (hts.out.2.done (.inl rfl) haj))
          have hd : decide ((j : Int) < (j : Int)) = false := by simp
          go_wp2_with fail
          go_quiet (fail)
          have hrow2 := Lib.hid (hrow.out.drewN nq)
          have hk2 := Lib.hid (hk.out.drewN nq)
          generalize wr.drewN nq = w2 at hrow2 hk2 ⊢
          clear hrow hk hts
          go_wp2_with fail
          go_roundw
          case rel => exact ⟨i + 1, l, by go_num, by omega, .inl (by omega), hrow2, hh, hk2⟩
          case measure => simp [intOf] <;> omega
    · have hh := Lib.hid (And.intro hts.out.1 (show SortedOn l a b from fun p q h1 h2 h3 => hts.out.2 p q h1 h2 (by omega)))
      go_wp2_with fail
      go_end0
      exact ⟨rfl, l, hrow, hh, hk⟩
end Go.Proofs.Ytcnebfmlelcliaa
namespace Go.Proofs.Ytcnebfmlelcliaa
open Go.RowKit

theorem mid_perm {a b : Nat} {l l' : List Nat} (h : Turned a b l l') (hab : a ≤ b) : ((l'.take b).drop a).Perm ((l.take b).drop a) := by
  have hlen := h.len
  have e1 : l'.take a = l.take a := by
    apply List.ext_getElem
    · simp [hlen]
    · intro i h1 h2
      simp only [List.length_take] at h1 h2
      have := h.2 i (.inl (by omega))
      rw [at_lt (by omega), at_lt (by omega)] at this
      simpa using this
  have e2 : l'.drop b = l.drop b := by
    apply List.ext_getElem
    · simp [hlen]
    · intro i h1 h2
      simp only [List.length_drop] at h1 h2
      have := h.2 (b + i) (.inr (by omega))
      rw [at_lt (by omega), at_lt (by omega)] at this
      simpa using this
  have d : ∀ (m : List Nat), m.take a ++ ((m.take b).drop a ++ m.drop b) = m := fun m => by
    have e : m.take a = (m.take b).take a := by rw [List.take_take, Nat.min_eq_left hab]
    rw [← List.append_assoc, e, List.take_append_drop, List.take_append_drop]
  have hp : (l'.take a ++ ((l'.take b).drop a ++ l'.drop b)).Perm (l.take a ++ ((l.take b).drop a ++ l.drop b)) := by rw [d l', d l]; exact h.1
  rw [e1, e2] at hp
  exact (List.perm_append_right_iff _).1 ((List.perm_append_left_iff _).1 hp)
/-- what holds of all in between holds of them turned about -/
theorem Turned.all {a b : Nat} {l l' : List Nat} (h : Turned a b l l') (hb : b ≤ l.length) (Pr : Nat → Prop) (hp : ∀ q, a ≤ q → q < b → Pr (at_ l q)) : ∀ q, a ≤ q → q < b → Pr (at_ l' q) := by
  intro q h1 h2
  have hlen := h.len
  have hm : at_ l' q ∈ (l'.take b).drop a := by
    rw [at_lt (by omega)]
    refine List.mem_iff_getElem.2 ⟨q - a, by simp; omega, ?_⟩
    simp only [List.getElem_drop, List.getElem_take]
    congr 1; omega
  have hm2 := (mid_perm h (by omega)).mem_iff.1 hm
  obtain ⟨i, hi, e⟩ := List.mem_iff_getElem.1 hm2
  simp only [List.length_drop, List.length_take] at hi
  simp only [List.getElem_drop, List.getElem_take] at e
  have := hp (a + i) (by omega) (by omega)
  rw [at_lt (by omega), e] at this
  exact this
theorem Turned.wide {a b c d : Nat} {l l' : List Nat} (h : Turned a b l l') (h1 : c ≤ a) (h2 : b ≤ d) : Turned c d l l' := ⟨h.1, fun p hp => h.2 p (by omega)⟩
/-! heaps -/
def HeapAt (l : List Nat) (f hi k : Nat) : Prop := ∀ c, c = 2 * k + 1 ∨ c = 2 * k + 2 → c < hi → at_ l (f + c) ≤ at_ l (f + k)
def HeapFrom (l : List Nat) (f lo hi : Nat) : Prop := ∀ k, lo ≤ k → HeapAt l f hi k
def Sift (l : List Nat) (f lo hi r : Nat) : Prop := (∀ k, lo ≤ k → k ≠ r → HeapAt l f hi k) ∧ ∀ p, lo ≤ p → (r = 2 * p + 1 ∨ r = 2 * p + 2) → ∀ c, c = 2 * r + 1 ∨ c = 2 * r + 2 → c < hi → at_ l (f + c) ≤ at_ l (f + p)
theorem Sift.start {l : List Nat} {f lo hi : Nat} (h : HeapFrom l f (lo + 1) hi) : Sift l f lo hi lo := ⟨fun k h1 h2 => h k (by omega), fun p h1 h2 => by omega⟩
theorem Sift.done {l : List Nat} {f lo hi r : Nat} (h : Sift l f lo hi r) (hc : HeapAt l f hi r) : HeapFrom l f lo hi := fun k hk => by
  by_cases e : k = r
  · rw [e]; exact hc
  · exact h.1 k hk e
theorem Sift.step {l : List Nat} {f lo hi r c : Nat} (h : Sift l f lo hi r) (hlr : lo ≤ r) (hl : f + hi ≤ l.length) (hc : c = 2 * r + 1 ∨ c = 2 * r + 2) (hch : c < hi) (hlt : at_ l (f + r) < at_ l (f + c)) (ho : ∀ d, d = 2 * r + 1 ∨ d = 2 * r + 2 → d < hi → at_ l (f + d) ≤ at_ l (f + c)) : Sift (swp l (f + r) (f + c)) f lo hi c := by
  have e := fun k => swp_at l (f + r) (f + c) k (by omega) (by omega)
  have ec : at_ (swp l (f + r) (f + c)) (f + c) = at_ l (f + r) := by rw [e, if_pos rfl]
  have er : at_ (swp l (f + r) (f + c)) (f + r) = at_ l (f + c) := by rw [e, if_neg (by omega), if_pos rfl]
  have eo : ∀ k, k ≠ c → k ≠ r → at_ (swp l (f + r) (f + c)) (f + k) = at_ l (f + k) := fun k h1 h2 => by rw [e, if_neg (by omega), if_neg (by omega)]
  refine ⟨fun k hk hkc d hd hdh => ?_, fun p hp hcp d hd hdh => ?_⟩
  · by_cases hkr : k = r
    · subst hkr
      rw [er]
      by_cases hdc : d = c
      · rw [hdc, ec]; omega
      · rw [eo d hdc (by omega)]; exact ho d hd hdh
    · rw [eo k hkc hkr]
      by_cases hdr : d = r
      · rw [hdr, er]
        exact h.2 k hk (by omega) c hc hch
      · rw [eo d (by omega) hdr]
        exact h.1 k hk hkr d hd hdh
  · obtain rfl : p = r := by omega
    rw [er, eo d (by omega) (by omega)]
    exact h.1 c (by omega) (by omega) d hd hdh
theorem heap_top {l : List Nat} {f hi : Nat} (h : HeapFrom l f 0 hi) : ∀ k, k < hi → at_ l (f + k) ≤ at_ l f := by
  intro k
  induction k using Nat.strongRecOn with
  | ind k ih =>
    intro hk
    by_cases h0 : k = 0
    · rw [h0]; exact Nat.le_refl _
    · have h1 := h ((k - 1) / 2) (Nat.zero_le _) k (by omega) hk
      have h2 := ih ((k - 1) / 2) (by omega) (by omega)
      omega
theorem heap_none {l : List Nat} {f hi k : Nat} (h : hi ≤ 2 * k + 1) : HeapFrom l f k hi := fun j hj c hc hch => by omega
/-- from place m on all is where it belongs, and no less than what lies before -/
def Tail (l : List Nat) (a b m : Nat) : Prop := ∀ p q, a ≤ p → p < q → q < b → m ≤ q → at_ l p ≤ at_ l q
theorem heap_pop1 {l : List Nat} {a i : Nat} (h : HeapFrom l a 0 (i + 1)) (hl : a + i < l.length) : HeapFrom (swp l a (a + i)) a 1 i := fun k hk c hc hch => by
  rw [swp_at l a (a + i) _ (by omega) hl, swp_at l a (a + i) _ (by omega) hl, if_neg (by omega), if_neg (by omega), if_neg (by omega), if_neg (by omega)]
  exact h k (Nat.zero_le _) c hc (by omega)
theorem heap_pop2 {l l2 : List Nat} {a b i : Nat} (h : HeapFrom l a 0 (i + 1)) (ht : Tail l a b (a + i + 1)) (hib : a + i < b) (hl : b ≤ l.length) (h2 : Turned a (a + i) (swp l a (a + i)) l2) : Tail l2 a b (a + i) := by
  have e := fun k => swp_at l a (a + i) k (by omega) (by omega)
  have hin : ∀ (Pr : Nat → Prop), (∀ p, a ≤ p → p ≤ a + i → Pr (at_ l p)) → ∀ p, a ≤ p → p < a + i → Pr (at_ l2 p) := fun Pr hp => h2.all (by rw [swp_len]; omega) Pr (fun q h1 h3 => by
    rw [e]
    split
    · exact hp a (by omega) (by omega)
    · split
      · exact hp (a + i) (by omega) (by omega)
      · exact hp q h1 (by omega))
  have hq : ∀ q, a + i < q → at_ l2 q = at_ l q := fun q h1 => by rw [h2.2 q (by omega), e, if_neg (by omega), if_neg (by omega)]
  have htop : at_ l2 (a + i) = at_ l a := by rw [h2.2 (a + i) (by omega), e, if_pos rfl]
  intro p q h1 h3 h4 h5
  by_cases hqi : q = a + i
  · rw [hqi, htop]
    exact hin (· ≤ at_ l a) (fun p h6 h7 => by
      have := heap_top h (p - a) (by omega)
      rwa [Nat.add_sub_cancel' h6] at this) p h1 (by omega)
  · rw [hq q (by omega)]
    by_cases hp : a + i < p
    · rw [hq p hp]; exact ht p q h1 h3 h4 (by omega)
    · by_cases hpi : p = a + i
      · rw [hpi, htop]; exact ht a q (Nat.le_refl _) (by omega) h4 (by omega)
      · exact hin (· ≤ at_ l q) (fun p h6 h7 => ht p q h6 (by omega) h4 (by omega)) p h1 (by omega)
/-! partitions -/
def PartL (l : List Nat) (a i : Nat) : Prop := ∀ p, a < p → p < i → at_ l p < at_ l a
def PartR (l : List Nat) (a j b : Nat) : Prop := ∀ p, j < p → p < b → at_ l a ≤ at_ l p
def Parted (l : List Nat) (a b m : Nat) : Prop := (∀ p, a ≤ p → p < m → at_ l p ≤ at_ l m) ∧ ∀ p, m < p → p < b → at_ l m ≤ at_ l p
theorem PartL.more {l : List Nat} {a i : Nat} (h : PartL l a i) (hi : at_ l i < at_ l a) : PartL l a (i + 1) := fun p h1 h2 => by
  by_cases e : p = i
  · rw [e]; exact hi
  · exact h p h1 (by omega)
theorem PartR.more {l : List Nat} {a j b : Nat} (h : PartR l a (j + 1) b) (hj : ¬ at_ l (j + 1) < at_ l a) : PartR l a j b := fun p h1 h2 => by
  by_cases e : p = j + 1
  · rw [e]; omega
  · exact h p (by omega) h2
theorem part_swap {l : List Nat} {a b i j : Nat} (hL : PartL l a i) (hR : PartR l a j b) (hai : a < i) (hij : i < j) (hjb : j < b) (hb : b ≤ l.length) (h1 : ¬ at_ l i < at_ l a) (h2 : at_ l j < at_ l a) : PartL (swp l i j) a (i + 1) ∧ PartR (swp l i j) a (j - 1) b := by
  have e := fun k => swp_at l i j k (by omega) (by omega)
  have ea : at_ (swp l i j) a = at_ l a := by rw [e, if_neg (by omega), if_neg (by omega)]
  refine ⟨fun p h3 h4 => ?_, fun p h3 h4 => ?_⟩
  · rw [ea, e, if_neg (by omega)]
    split
    · exact h2
    · exact hL p h3 (by omega)
  · rw [ea, e]
    split
    · omega
    · rw [if_neg (by omega)]; exact hR p (by omega) h4
theorem part_done {l : List Nat} {a b j : Nat} (hL : PartL l a (j + 1)) (hR : PartR l a j b) (haj : a ≤ j) (hjb : j < b) (hb : b ≤ l.length) : Parted (swp l j a) a b j := by
  have e := fun k => swp_at l j a k (by omega) (by omega)
  have ej : at_ (swp l j a) j = at_ l a := by
    rw [e]
    split
    · rename_i h; rw [h]
    · rw [if_pos rfl]
  refine ⟨fun p h1 h2 => ?_, fun p h1 h2 => ?_⟩
  · rw [ej, e]
    split
    · exact Nat.le_of_lt (hL j (by omega) (by omega))
    · rw [if_neg (by omega)]; exact Nat.le_of_lt (hL p (by omega) (by omega))
  · rw [ej, e, if_neg (by omega), if_neg (by omega)]; exact hR p h1 h2
def EqL (l : List Nat) (a i : Nat) : Prop := ∀ p, a ≤ p → p < i → at_ l p ≤ at_ l a
def EqR (l : List Nat) (a j b : Nat) : Prop := ∀ p, j < p → p < b → at_ l a < at_ l p
theorem EqL.more {l : List Nat} {a i : Nat} (h : EqL l a i) (hi : ¬ at_ l a < at_ l i) : EqL l a (i + 1) := fun p h1 h2 => by
  by_cases e : p = i
  · rw [e]; omega
  · exact h p h1 (by omega)
theorem EqR.more {l : List Nat} {a j b : Nat} (h : EqR l a (j + 1) b) (hj : at_ l a < at_ l (j + 1)) : EqR l a j b := fun p h1 h2 => by
  by_cases e : p = j + 1
  · rw [e]; omega
  · exact h p (by omega) h2
theorem eq_swap {l : List Nat} {a b i j : Nat} (hL : EqL l a i) (hR : EqR l a j b) (hai : a < i) (hij : i < j) (hjb : j < b) (hb : b ≤ l.length) (h1 : at_ l a < at_ l i) (h2 : ¬ at_ l a < at_ l j) : EqL (swp l i j) a (i + 1) ∧ EqR (swp l i j) a (j - 1) b := by
  have e := fun k => swp_at l i j k (by omega) (by omega)
  have ea : at_ (swp l i j) a = at_ l a := by rw [e, if_neg (by omega), if_neg (by omega)]
  refine ⟨fun p h3 h4 => ?_, fun p h3 h4 => ?_⟩
  · rw [ea, e, if_neg (by omega)]
    split
    · omega
    · exact hL p h3 (by omega)
  · rw [ea, e]
    split
    · omega
    · rw [if_neg (by omega)]; exact hR p (by omega) h4
/-! what is done, and what is left -/
def Low (l : List Nat) (a b : Nat) : Prop := ∀ q, 0 < a → a ≤ q → q < b → at_ l (a - 1) ≤ at_ l q
def Out (l : List Nat) (c d a b : Nat) : Prop := ∀ p q, c ≤ p → p < q → q < d → p < a ∨ b ≤ q → at_ l p ≤ at_ l q
theorem Low.turned {l l' : List Nat} {a b : Nat} (h : Low l a b) (ht : Turned a b l l') (hb : b ≤ l.length) : Low l' a b := fun q h0 h1 h2 => by
  rw [ht.2 (a - 1) (by omega)]
  exact ht.all hb (at_ l (a - 1) ≤ ·) (fun q => h q h0) q h1 h2
theorem Out.turned {l l' : List Nat} {c d a b : Nat} (h : Out l c d a b) (ht : Turned a b l l') (hb : b ≤ l.length) (hbd : b ≤ d) (hca : c ≤ a) : Out l' c d a b := fun p q h1 h2 h3 h4 => by
  by_cases hp : p < a
  · rw [ht.2 p (.inl hp)]
    by_cases hq : a ≤ q ∧ q < b
    · exact ht.all hb (at_ l p ≤ ·) (fun q h5 h6 => h p q h1 (by omega) (by omega) (.inl hp)) q hq.1 hq.2
    · rw [ht.2 q (by omega)]; exact h p q h1 h2 h3 h4
  · have hq : b ≤ q := by omega
    rw [ht.2 q (.inr hq)]
    by_cases hpb : p < b
    · exact ht.all hb (· ≤ at_ l q) (fun p h5 h6 => h p q (by omega) (by omega) h3 (.inr hq)) p (by omega) hpb
    · rw [ht.2 p (by omega)]; exact h p q h1 h2 h3 h4
/-- how pdqsort stands: l0 turned about between c and d; what lies without a and b is where it belongs -/
structure Inv (l0 l : List Nat) (c d a b : Nat) : Prop where
  turned : Turned c d l0 l
  out : Out l (c - 1) d a b
  ca : c ≤ a
  ab : a ≤ b
  bd : b ≤ d
theorem Inv.start {l : List Nat} {a b : Nat} (hab : a ≤ b) (h : Low l a b) : Inv l l a b a b :=
  ⟨Turned.refl _ _ _, fun p q h1 h2 h3 h4 => by
    obtain rfl : p = a - 1 := by omega
    exact h q (by omega) (by omega) h3, Nat.le_refl _, hab, Nat.le_refl _⟩
theorem Inv.low {l0 l : List Nat} {c d a b : Nat} (h : Inv l0 l c d a b) : Low l a b := fun q h0 h1 h2 => h.out (a - 1) q (by have := h.ca; omega) (by omega) (by have := h.bd; omega) (.inl (by omega))
theorem Inv.len {l0 l : List Nat} {c d a b : Nat} (h : Inv l0 l c d a b) : l.length = l0.length := h.turned.len
theorem Inv.next {l0 l l' : List Nat} {c d a b : Nat} (h : Inv l0 l c d a b) (hd : d ≤ l0.length) (ht : Turned a b l l') : Inv l0 l' c d a b :=
  ⟨h.turned.trans (ht.wide h.ca h.bd), h.out.turned ht (by have := h.len; have := h.bd; omega) h.bd (by have := h.ca; omega), h.ca, h.ab, h.bd⟩
theorem Inv.sorted {l0 l : List Nat} {c d a b : Nat} (h : Inv l0 l c d a b) (hs : SortedOn l a b) : Turned c d l0 l ∧ SortedOn l c d :=
  ⟨h.turned, fun p q h1 h2 h3 => by
    by_cases hp : p < a ∨ b ≤ q
    · exact h.out p q (by omega) h2 h3 hp
    · exact hs p q (by omega) h2 (by omega)⟩
theorem Inv.left {l0 l : List Nat} {c d a b m : Nat} (h : Inv l0 l c d a b) (hp : Parted l a b m) (ham : a ≤ m) (hmb : m < b) (hs : SortedOn l a m) : Inv l0 l c d (m + 1) b :=
  ⟨h.turned, fun p q h1 h2 h3 h4 => by
    by_cases hpa : p < a ∨ b ≤ q
    · exact h.out p q h1 h2 h3 hpa
    · by_cases hpm : p = m
      · rw [hpm]; exact hp.2 q (by omega) (by omega)
      · by_cases hqm : q < m
        · exact hs p q (by omega) h2 hqm
        · have g1 := hp.1 p (by omega) (by omega)
          by_cases hq : q = m
          · rw [hq]; exact g1
          · exact Nat.le_trans g1 (hp.2 q (by omega) (by omega)), by have := h.ca; omega, by omega, h.bd⟩
theorem Inv.right {l0 l : List Nat} {c d a b m : Nat} (h : Inv l0 l c d a b) (hp : Parted l a b m) (ham : a ≤ m) (hmb : m < b) (hs : SortedOn l (m + 1) b) : Inv l0 l c d a m :=
  ⟨h.turned, fun p q h1 h2 h3 h4 => by
    by_cases hpa : p < a ∨ b ≤ q
    · exact h.out p q h1 h2 h3 hpa
    · by_cases hqm : q = m
      · rw [hqm]; exact hp.1 p (by omega) (by omega)
      · by_cases hpm : m < p
        · exact hs p q (by omega) h2 (by omega)
        · have g1 := hp.2 q (by omega) (by omega)
          by_cases hq : p = m
          · rw [hq]; exact g1
          · exact Nat.le_trans (hp.1 p (by omega) (by omega)) g1, h.ca, ham, by have := h.bd; omega⟩
theorem Inv.eq {l0 l : List Nat} {c d a b m x : Nat} (h : Inv l0 l c d a b) (hx : ∀ q, a ≤ q → q < b → x ≤ at_ l q) (ham : a ≤ m) (hmb : m ≤ b) (h1 : ∀ p, a ≤ p → p < m → at_ l p ≤ x) : Inv l0 l c d m b :=
  ⟨h.turned, fun p q h2 h3 h4 h5 => by
    by_cases hpa : p < a ∨ b ≤ q
    · exact h.out p q h2 h3 h4 hpa
    · exact Nat.le_trans (h1 p (by omega) (by omega)) (hx q (by omega) (by omega)), by have := h.ca; omega, hmb, h.bd⟩
theorem Parted.turnL {l l' : List Nat} {a b m : Nat} (h : Parted l a b m) (hm : m ≤ l.length) (ht : Turned a m l l') : Parted l' a b m :=
  ⟨fun p h1 h2 => by
    rw [ht.2 m (.inr (Nat.le_refl _))]
    exact ht.all hm (· ≤ at_ l m) h.1 p h1 h2, fun p h1 h2 => by
    rw [ht.2 m (.inr (Nat.le_refl _)), ht.2 p (.inr (by omega))]
    exact h.2 p h1 h2⟩
theorem Parted.turnR {l l' : List Nat} {a b m : Nat} (h : Parted l a b m) (hb : b ≤ l.length) (ht : Turned (m + 1) b l l') : Parted l' a b m :=
  ⟨fun p h1 h2 => by
    rw [ht.2 m (.inl (by omega)), ht.2 p (.inl (by omega))]
    exact h.1 p h1 h2, fun p h1 h2 => by
    rw [ht.2 m (.inl (by omega))]
    exact ht.all hb (at_ l m ≤ ·) (fun q h3 h4 => h.2 q (by omega) h4) p (by omega) h2⟩
end Go.Proofs.Ytcnebfmlelcliaa
namespace Go.Proofs.Ytcnebfmlelcliaa
open Go.RowKit

theorem Row.swapW {W : World} {g : Nat} {l : List Nat} {rest : List Value} (h : Row W g l rest) (i j : Nat) (hi : i < l.length) (hj : j < l.length) : Row (((W.setCell ⟨g, i, none⟩ (.int .u64 (at_ l j))).setCell ⟨g, j, none⟩ (.int .u64 (at_ l i))).drew) g (swp l i j) rest :=
  ((h.set i hi (at_ l j)).set j (by rw [List.length_set]; exact hj) (at_ l i)).drew
theorem Kept1.swapW {W0 W : World} {g : Nat} (h : Kept1 W0 g W) (i j : Nat) (u v : Value) : Kept1 W0 g (((W.setCell ⟨g, i, none⟩ u).setCell ⟨g, j, none⟩ v).drew) := ((h.set i u).set j v).drewN 1
theorem Row.at {W : World} {g : Nat} {l : List Nat} {rest : List Value} (h : Row W g l rest) (j : Nat) (hj : j < l.length) : W.cell? ⟨g, j, none⟩ = some (.int .u64 (at_ l j : Nat)) := by
  rw [at_lt hj]; exact h.cell j hj
set_option maxRecDepth 100000 in
set_option maxHeartbeats 4000000 in
theorem sift_any (g cap : Nat) (l0 : List Nat) (rest : List Value) (lo hi f : Nat) (hlo : lo ≤ hi) (hfl : f + hi ≤ l0.length) (hlen : l0.length ≤ 2305843009213693952) (W0 : World) (hr : Row W0 g l0 rest) (hh : HeapFrom l0 f (lo + 1) hi) :
    Calls Try.prog 86 #[.slice (some ⟨g, 0, none⟩) l0.length cap, .int .i64 lo, .int .i64 hi, .int .i64 f] W0 fun e W' => e = .returned (.tuple #[]) ∧ ∃ l', Hid (Row W' g l' rest) ∧ Hid (Turned (f + lo) (f + hi) l0 l' ∧ HeapFrom l' f lo hi) ∧ Hid (Kept1 W0 g W') := by
  replace hr := Lib.hid hr
  have hle := Lib.hid less_any
  go_enter Try.func86, Try.ntmps86
  go_wp2_with fail
  go_loopw [8] (fun v8 wr => ∃ (r : Nat) (l : List Nat), v8 = .int .i64 r ∧ lo ≤ r ∧ r ≤ hi ∧ Hid (Row wr g l rest) ∧ Hid (Turned (f + lo) (f + hi) l0 l ∧ Sift l f lo hi r) ∧ Hid (Kept1 W0 g wr)) (fun v8 _ => hi - (intOf v8).toNat)
  case atStart => exact ⟨lo, l0, rfl, Nat.le_refl _, hlo, hr, Lib.hid ⟨Turned.refl _ _ _, Sift.start hh⟩, Lib.hid (Kept1.refl _ _)⟩
  case round =>
    clear hr hh
    obtain ⟨r, l, rfl, hlr, hrh, hrow, hts, hk⟩ := hrel
    have hll := hts.out.1.len
    by_cases hch : 2 * r + 1 < hi
    · have hch' : 2 * (r : Int) + 1 < (hi : Int) := by omega
      have b1 : (f : Int) + (r : Int) < (l0.length : Int) := by omega
      have b2 : (f : Int) + (2 * (r : Int) + 1) < (l0.length : Int) := by omega
      have cr := hrow.out.at (f + r) (by omega)
      have cc := hrow.out.at (f + (2 * r + 1)) (by omega)
      have frf := hrow.out.free (f + r)
      have fef := hrow.out.free (f + (2 * r + 1))
      by_cases h1 : 2 * r + 1 + 1 < hi
      · have fcf := fef
        have h1' : decide (2 * (r : Int) + 1 + 1 < (hi : Int)) = true := by simp; omega
        have b3 : (f : Int) + (2 * (r : Int) + 1) + 1 < (l0.length : Int) := by omega
        have b4 : (f : Int) + (2 * (r : Int) + 1 + 1) < (l0.length : Int) := by omega
        have cd := hrow.out.at (f + (2 * r + 1) + 1) (by omega)
        have hcmp := Lib.hid (fun n => hle.out (at_ l (f + (2 * r + 1))) (at_ l (f + (2 * r + 1) + 1)) (wr.drewN n))
        by_cases hxy : at_ l (f + (2 * r + 1)) < at_ l (f + (2 * r + 1) + 1)
        · have ho := Lib.hid (show ∀ e, e = 2 * r + 1 ∨ e = 2 * r + 2 → e < hi → at_ l (f + e) ≤ at_ l (f + (2 * r + 1 + 1)) from fun e he _ => by
            rw [show f + (2 * r + 1 + 1) = f + (2 * r + 1) + 1 by omega]
            rcases he with h | h
            · rw [h]; omega
            · rw [h, show f + (2 * r + 2) = f + (2 * r + 1) + 1 by omega]; exact Nat.le_refl _)
          have ce := hrow.out.at (f + (2 * r + 1 + 1)) (by omega)
          have fef := hrow.out.free (f + (2 * r + 1 + 1))
          rw [decide_eq_true hxy] at hcmp
          clear hxy
          generalize at_ l (f + (2 * r + 1)) = z at cc hcmp
          generalize at_ l (f + (2 * r + 1) + 1) = z2 at cd hcmp
          go_wp2_with fail
          go_quiet ((go_at_call 78; exact Calls.quiet_of_same (hcmp.out _)))
          have hrow := Lib.hid (hrow.out.drewN nq)
          have hk := Lib.hid (hk.out.drewN nq)
          have cr : (wr.drewN nq).cell? ⟨g, f + r, none⟩ = some (.int .u64 (at_ l (f + r) : Nat)) := cr
          have ce : (wr.drewN nq).cell? ⟨g, f + (2 * r + 1 + 1), none⟩ = some (.int .u64 (at_ l (f + (2 * r + 1 + 1)) : Nat)) := ce
          have frf : (wr.drewN nq).frozen? ⟨g, f + r, none⟩ = false := frf
          have fef : (wr.drewN nq).frozen? ⟨g, f + (2 * r + 1 + 1), none⟩ = false := fef
          generalize wr.drewN nq = w2 at hrow hk cr ce frf fef ⊢
          clear hcmp cc cd
          have hcmp2 := Lib.hid (fun n => hle.out (at_ l (f + r)) (at_ l (f + (2 * r + 1 + 1))) (w2.drewN n))
          by_cases hlt : at_ l (f + r) < at_ l (f + (2 * r + 1 + 1))
          · have hh := Lib.hid (show Turned (f + lo) (f + hi) l0 (swp l (f + r) (f + (2 * r + 1 + 1))) ∧ Sift (swp l (f + r) (f + (2 * r + 1 + 1))) f lo hi (2 * r + 1 + 1) from ⟨hts.out.1.trans (Turned.swp l (f + r) (f + (2 * r + 1 + 1)) ⟨by omega, by omega⟩ ⟨by omega, by omega⟩ (by omega)),
              hts.out.2.step (c := (2 * r + 1 + 1)) hlr (by omega) (by omega) (by omega) hlt ho.out⟩)
            have hsw := Lib.hid (fun (W : World) (h : Row W g l rest) => h.swapW (f + r) (f + (2 * r + 1 + 1)) (by omega) (by omega))
            rw [decide_eq_true hlt] at hcmp2
            clear hlt ho hts
            generalize swp l (f + r) (f + (2 * r + 1 + 1)) = ls at hh hsw
            generalize at_ l (f + r) = x at cr hcmp2 hsw
            generalize at_ l (f + (2 * r + 1 + 1)) = y at ce hcmp2 hsw
            go_wp2_with fail
            go_quiet ((go_at_call 78; exact Calls.quiet_of_same (hcmp2.out _)))
            have hrow := Lib.hid (hrow.out.drewN nq)
            have hk := Lib.hid (hk.out.drewN nq)
            have cr : (w2.drewN nq).cell? ⟨g, f + r, none⟩ = some (.int .u64 (x : Nat)) := cr
            have ce : (w2.drewN nq).cell? ⟨g, f + (2 * r + 1 + 1), none⟩ = some (.int .u64 (y : Nat)) := ce
            have frf : (w2.drewN nq).frozen? ⟨g, f + r, none⟩ = false := frf
            have fef : (w2.drewN nq).frozen? ⟨g, f + (2 * r + 1 + 1), none⟩ = false := fef
            generalize w2.drewN nq = w2b at hrow hk cr ce frf fef ⊢
            clear hcmp2
            go_wp2_with fail
            go_region
            have hrow3 := Lib.hid (hsw.out _ hrow.out)
            have hk3 := Lib.hid (hk.out.swapW (f + r) (f + (2 * r + 1 + 1)) (.int .u64 y) (.int .u64 x))
            clear hsw cr ce frf fef hrow hk
            generalize ((w2b.setCell ⟨g, f + r, none⟩ (.int .u64 (y : Nat))).setCell ⟨g, f + (2 * r + 1 + 1), none⟩ (.int .u64 (x : Nat))).drew = w3 at hrow3 hk3 ⊢
            go_wp2_with fail
            go_roundw
            case rel => exact ⟨(2 * r + 1 + 1), ls, by go_num, by omega, by omega, hrow3, hh, hk3⟩
            case measure => simp [intOf] <;> omega
          · have hh := Lib.hid (show Turned (f + lo) (f + hi) l0 l ∧ HeapFrom l f lo hi from ⟨hts.out.1, hts.out.2.done (fun e he heh => by
              have h1 := ho.out e he heh
              omega)⟩)
            rw [decide_eq_false hlt] at hcmp2
            clear hlt ho hts
            generalize at_ l (f + r) = x at cr hcmp2
            generalize at_ l (f + (2 * r + 1 + 1)) = y at ce hcmp2
            go_wp2_with fail
            go_quiet ((go_at_call 78; exact Calls.quiet_of_same (hcmp2.out _)))
            have hrow := Lib.hid (hrow.out.drewN nq)
            have hk := Lib.hid (hk.out.drewN nq)
            generalize w2.drewN nq = w3 at hrow hk ⊢
            clear hcmp2
            go_wp2_with fail
            (try simp only [Exit.inBlock, Exit.then])
            refine bodyPost_ret (results_none rfl _ _ _) rfl ?_
            exact ⟨rfl, l, hrow, hh, hk⟩
        · have ho := Lib.hid (show ∀ e, e = 2 * r + 1 ∨ e = 2 * r + 2 → e < hi → at_ l (f + e) ≤ at_ l (f + (2 * r + 1)) from fun e he _ => by
            rcases he with h | h
            · rw [h]; exact Nat.le_refl _
            · rw [h, show f + (2 * r + 2) = f + (2 * r + 1) + 1 by omega]; omega)
          have ce := cc
          rw [decide_eq_false hxy] at hcmp
          clear hxy
          generalize at_ l (f + (2 * r + 1) + 1) = z2 at cd hcmp
          go_wp2_with fail
          go_quiet ((go_at_call 78; exact Calls.quiet_of_same (hcmp.out _)))
          have hrow := Lib.hid (hrow.out.drewN nq)
          have hk := Lib.hid (hk.out.drewN nq)
          have cr : (wr.drewN nq).cell? ⟨g, f + r, none⟩ = some (.int .u64 (at_ l (f + r) : Nat)) := cr
          have ce : (wr.drewN nq).cell? ⟨g, f + (2 * r + 1), none⟩ = some (.int .u64 (at_ l (f + (2 * r + 1)) : Nat)) := ce
          have frf : (wr.drewN nq).frozen? ⟨g, f + r, none⟩ = false := frf
          have fef : (wr.drewN nq).frozen? ⟨g, f + (2 * r + 1), none⟩ = false := fef
          generalize wr.drewN nq = w2 at hrow hk cr ce frf fef ⊢
          clear hcmp cd
          have hcmp2 := Lib.hid (fun n => hle.out (at_ l (f + r)) (at_ l (f + (2 * r + 1))) (w2.drewN n))
          by_cases hlt : at_ l (f + r) < at_ l (f + (2 * r + 1))
          · have hh := Lib.hid (show Turned (f + lo) (f + hi) l0 (swp l (f + r) (f + (2 * r + 1))) ∧ Sift (swp l (f + r) (f + (2 * r + 1))) f lo hi (2 * r + 1) from ⟨hts.out.1.trans (Turned.swp l (f + r) (f + (2 * r + 1)) ⟨by omega, by omega⟩ ⟨by omega, by omega⟩ (by omega)),
              hts.out.2.step (c := (2 * r + 1)) hlr (by omega) (by omega) (by omega) hlt ho.out⟩)
            have hsw := Lib.hid (fun (W : World) (h : Row W g l rest) => h.swapW (f + r) (f + (2 * r + 1)) (by omega) (by omega))
            rw [decide_eq_true hlt] at hcmp2
            clear hlt ho hts
            generalize swp l (f + r) (f + (2 * r + 1)) = ls at hh hsw
            generalize at_ l (f + r) = x at cr hcmp2 hsw
            generalize at_ l (f + (2 * r + 1)) = y at ce hcmp2 hsw
            go_wp2_with fail
            go_quiet ((go_at_call 78; exact Calls.quiet_of_same (hcmp2.out _)))
            have hrow := Lib.hid (hrow.out.drewN nq)
            have hk := Lib.hid (hk.out.drewN nq)
            have cr : (w2.drewN nq).cell? ⟨g, f + r, none⟩ = some (.int .u64 (x : Nat)) := cr
            have ce : (w2.drewN nq).cell? ⟨g, f + (2 * r + 1), none⟩ = some (.int .u64 (y : Nat)) := ce
            have frf : (w2.drewN nq).frozen? ⟨g, f + r, none⟩ = false := frf
            have fef : (w2.drewN nq).frozen? ⟨g, f + (2 * r + 1), none⟩ = false := fef
            generalize w2.drewN nq = w2b at hrow hk cr ce frf fef ⊢
            clear hcmp2
            go_wp2_with fail
            go_region
            have hrow3 := Lib.hid (hsw.out _ hrow.out)
            have hk3 := Lib.hid (hk.out.swapW (f + r) (f + (2 * r + 1)) (.int .u64 y) (.int .u64 x))
            clear hsw cr ce frf fef hrow hk
            generalize ((w2b.setCell ⟨g, f + r, none⟩ (.int .u64 (y : Nat))).setCell ⟨g, f + (2 * r + 1), none⟩ (.int .u64 (x : Nat))).drew = w3 at hrow3 hk3 ⊢
            go_wp2_with fail
            go_roundw
            case rel => exact ⟨(2 * r + 1), ls, by go_num, by omega, by omega, hrow3, hh, hk3⟩
            case measure => simp [intOf] <;> omega
          · have hh := Lib.hid (show Turned (f + lo) (f + hi) l0 l ∧ HeapFrom l f lo hi from ⟨hts.out.1, hts.out.2.done (fun e he heh => by
              have h1 := ho.out e he heh
              omega)⟩)
            rw [decide_eq_false hlt] at hcmp2
            clear hlt ho hts
            generalize at_ l (f + r) = x at cr hcmp2
            generalize at_ l (f + (2 * r + 1)) = y at ce hcmp2
            go_wp2_with fail
            go_quiet ((go_at_call 78; exact Calls.quiet_of_same (hcmp2.out _)))
            have hrow := Lib.hid (hrow.out.drewN nq)
            have hk := Lib.hid (hk.out.drewN nq)
            generalize w2.drewN nq = w3 at hrow hk ⊢
            clear hcmp2
            go_wp2_with fail
            (try simp only [Exit.inBlock, Exit.then])
            refine bodyPost_ret (results_none rfl _ _ _) rfl ?_
            exact ⟨rfl, l, hrow, hh, hk⟩
      · have h1' : decide (2 * (r : Int) + 1 + 1 < (hi : Int)) = false := by simp; omega
        have ho := Lib.hid (show ∀ e, e = 2 * r + 1 ∨ e = 2 * r + 2 → e < hi → at_ l (f + e) ≤ at_ l (f + (2 * r + 1)) from fun e he heh => by
          rw [show e = 2 * r + 1 by omega]; exact Nat.le_refl _)
        have ce := cc
        clear cc
        go_wp2_with fail
        go_quiet (fail)
        have hrow := Lib.hid (hrow.out.drewN nq)
        have hk := Lib.hid (hk.out.drewN nq)
        have cr : (wr.drewN nq).cell? ⟨g, f + r, none⟩ = some (.int .u64 (at_ l (f + r) : Nat)) := cr
        have ce : (wr.drewN nq).cell? ⟨g, f + (2 * r + 1), none⟩ = some (.int .u64 (at_ l (f + (2 * r + 1)) : Nat)) := ce
        have frf : (wr.drewN nq).frozen? ⟨g, f + r, none⟩ = false := frf
        have fef : (wr.drewN nq).frozen? ⟨g, f + (2 * r + 1), none⟩ = false := fef
        generalize wr.drewN nq = w2 at hrow hk cr ce frf fef ⊢
        clear h1'
        have hcmp2 := Lib.hid (fun n => hle.out (at_ l (f + r)) (at_ l (f + (2 * r + 1))) (w2.drewN n))
        by_cases hlt : at_ l (f + r) < at_ l (f + (2 * r + 1))
        · have hh := Lib.hid (show Turned (f + lo) (f + hi) l0 (swp l (f + r) (f + (2 * r + 1))) ∧ Sift (swp l (f + r) (f + (2 * r + 1))) f lo hi (2 * r + 1) from ⟨hts.out.1.trans (Turned.swp l (f + r) (f + (2 * r + 1)) ⟨by omega, by omega⟩ ⟨by omega, by omega⟩ (by omega)),
            hts.out.2.step (c := (2 * r + 1)) hlr (by omega) (by omega) (by omega) hlt ho.out⟩)
          have hsw := Lib.hid (fun (W : World) (h : Row W g l rest) => h.swapW (f + r) (f + (2 * r + 1)) (by omega) (by omega))
          rw [decide_eq_true hlt] at hcmp2
          clear hlt ho hts
          generalize swp l (f + r) (f + (2 * r + 1)) = ls at hh hsw
          generalize at_ l (f + r) = x at cr hcmp2 hsw
          generalize at_ l (f + (2 * r + 1)) = y at ce hcmp2 hsw
          go_wp2_with fail
          go_quiet ((go_at_call 78; exact Calls.quiet_of_same (hcmp2.out _)))
          have hrow := Lib.hid (hrow.out.drewN nq)
          have hk := Lib.hid (hk.out.drewN nq)
          have cr : (w2.drewN nq).cell? ⟨g, f + r, none⟩ = some (.int .u64 (x : Nat)) := cr
          have ce : (w2.drewN nq).cell? ⟨g, f + (2 * r + 1), none⟩ = some (.int .u64 (y : Nat)) := ce
          have frf : (w2.drewN nq).frozen? ⟨g, f + r, none⟩ = false := frf
          have fef : (w2.drewN nq).frozen? ⟨g, f + (2 * r + 1), none⟩ = false := fef
          generalize w2.drewN nq = w2b at hrow hk cr ce frf fef ⊢
          clear hcmp2
          go_wp2_with fail
          go_region
          have hrow3 := Lib.hid (hsw.out _ hrow.out)
          have hk3 := Lib.hid (hk.out.swapW (f + r) (f + (2 * r + 1)) (.int .u64 y) (.int .u64 x))
          clear hsw cr ce frf fef hrow hk
          generalize ((w2b.setCell ⟨g, f + r, none⟩ (.int .u64 (y : Nat))).setCell ⟨g, f + (2 * r + 1), none⟩ (.int .u64 (x : Nat))).drew = w3 at hrow3 hk3 ⊢
          go_wp2_with fail
          go_roundw
          case rel => exact ⟨(2 * r + 1), ls, by go_num, by omega, by omega, hrow3, hh, hk3⟩
          case measure => simp [intOf] <;> omega
        · have hh := Lib.hid (show Turned (f + lo) (f + hi) l0 l ∧ HeapFrom l f lo hi from ⟨hts.out.1, hts.out.2.done (fun e he heh => by
            have h1 := ho.out e he heh
            omega)⟩)
          rw [decide_eq_false hlt] at hcmp2
          clear hlt ho hts
          generalize at_ l (f + r) = x at cr hcmp2
          generalize at_ l (f + (2 * r + 1)) = y at ce hcmp2
          go_wp2_with fail
          go_quiet ((go_at_call 78; exact Calls.quiet_of_same (hcmp2.out _)))
          have hrow := Lib.hid (hrow.out.drewN nq)
          have hk := Lib.hid (hk.out.drewN nq)
          generalize w2.drewN nq = w3 at hrow hk ⊢
          clear hcmp2
          go_wp2_with fail
          (try simp only [Exit.inBlock, Exit.then])
          refine bodyPost_ret (results_none rfl _ _ _) rfl ?_
          exact ⟨rfl, l, hrow, hh, hk⟩
    · have hge : (hi : Int) ≤ 2 * (r : Int) + 1 := by omega
      have hh := Lib.hid (show Turned (f + lo) (f + hi) l0 l ∧ HeapFrom l f lo hi from ⟨hts.out.1, hts.out.2.done (fun e he heh => by omega)⟩)
      clear hts
      go_wp2_with fail
      go_end0
      exact ⟨rfl, l, hrow, hh, hk⟩
end Go.Proofs.Ytcnebfmlelcliaa
namespace Go.Proofs.Ytcnebfmlelcliaa
open Go.RowKit

theorem tdiv2 (m : Nat) : Int.tdiv (m : Int) 2 = ((m / 2 : Nat) : Int) := by
  rw [Int.tdiv_eq_ediv_of_nonneg (by omega)]; omega
set_option maxRecDepth 100000 in
set_option maxHeartbeats 4000000 in
theorem heapSort_any (g cap : Nat) (l0 : List Nat) (rest : List Value) (a n : Nat) (hn : 0 < n) (hfl : a + n ≤ l0.length) (hlen : l0.length ≤ 2305843009213693952) (W0 : World) (hr : Row W0 g l0 rest) :
    Calls Try.prog 73 #[.slice (some ⟨g, 0, none⟩) l0.length cap, .int .i64 a, .int .i64 ((a : Int) + (n : Int))] W0 fun e W' => e = .returned (.tuple #[]) ∧ ∃ l', Hid (Row W' g l' rest) ∧ Hid (Turned a (a + n) l0 l' ∧ SortedOn l' a (a + n)) ∧ Hid (Kept1 W0 g W') := by
  replace hr := Lib.hid hr
  obtain ⟨m, rfl⟩ : ∃ m, n = m + 1 := ⟨n - 1, by omega⟩
  have hs1 : (a : Int) + (((m + 1 : Nat)) : Int) - (a : Int) = (m : Int) + 1 := by omega
  have ht := tdiv2 m
  have e0 : (((m + 1 : Nat)) : Int) = (m : Int) + 1 := by omega
  rw [e0] at hs1 ⊢
  have hm2 : m / 2 ≤ m := Nat.div_le_self m 2
  obtain ⟨z2, hz2⟩ : ∃ z2, m / 2 = z2 := ⟨_, rfl⟩
  rw [hz2] at ht hm2
  have hz3 : Hid (m ≤ 2 * z2 + 1) := Lib.hid (by omega)
  clear hz2 e0
  go_enter Try.func73, Try.ntmps73
  go_wp2_with fail
  go_loopw [9] (fun v9 wr => ∃ (z : Int) (l : List Nat), v9 = .int .i64 z ∧ -1 ≤ z ∧ z ≤ m ∧ Hid (Row wr g l rest) ∧ Hid (Turned a (a + (m + 1)) l0 l ∧ HeapFrom l a (z + 1).toNat (m + 1)) ∧ Hid (Kept1 W0 g wr)) (fun v9 _ => (intOf v9 + 1).toNat)
  case atStart => exact ⟨z2, l0, rfl, by omega, by omega, hr, Lib.hid ⟨Turned.refl _ _ _, heap_none (by have := hz3.out; omega)⟩, Lib.hid (Kept1.refl _ _)⟩
  case round =>
    clear hr ht hz3 hm2
    obtain ⟨z, l, rfl, hz1, hzm, hrow, hts, hk⟩ := hrel
    have hll := hts.out.1.len
    by_cases hz0 : 0 ≤ z
    · obtain ⟨k, rfl⟩ : ∃ k : Nat, z = k := ⟨z.toNat, by omega⟩
      have hc := sift_any g cap l rest k (m + 1) a (by omega) (by omega) (by omega) wr hrow.out (by have := hts.out.2; rwa [show ((k : Int) + 1).toNat = k + 1 by omega] at this)
      rw [hll, show (((m + 1 : Nat)) : Int) = (m : Int) + 1 by omega] at hc
      replace hc := Lib.hid hc
      go_wp2_with fail
      refine hc.out.mono ?_
      rintro e w1 ⟨rfl, l', h1, h2, h3⟩
      have hh := Lib.hid (show Turned a (a + (m + 1)) l0 l' ∧ HeapFrom l' a ((k : Int) - 1 + 1).toNat (m + 1) from ⟨hts.out.1.trans (h2.out.1.wide (by omega) (by omega)), by rw [show ((k : Int) - 1 + 1).toNat = k by omega]; exact h2.out.2⟩)
      have hk2 := Lib.hid (hk.out.trans h3.out)
      clear hc hts hk h2 h3
      go_wp2_with fail
      go_roundw
      case rel => exact ⟨(k : Int) - 1, l', by go_num, by omega, by omega, h1, hh, hk2⟩
      case measure => simp [intOf] <;> omega
    · obtain rfl : z = -1 := by omega
      have hh := Lib.hid (show Turned a (a + (m + 1)) l0 l ∧ HeapFrom l a 0 (m + 1) from hts.out)
      clear hts
      go_wp2_with fail
      go_loopw [10] (fun v10 wr => ∃ (z : Int) (l : List Nat), v10 = .int .i64 z ∧ -1 ≤ z ∧ z ≤ m ∧ Hid (Row wr g l rest) ∧ Hid (Turned a (a + (m + 1)) l0 l ∧ HeapFrom l a 0 (z + 1).toNat ∧ Tail l a (a + (m + 1)) (a + (z + 1).toNat)) ∧ Hid (Kept1 W0 g wr)) (fun v10 _ => (intOf v10 + 1).toNat)
      case atStart => exact ⟨m, l, by go_num, by omega, by omega, hrow, Lib.hid ⟨hh.out.1, by rw [show ((m : Int) + 1).toNat = m + 1 by omega]; exact hh.out.2, fun p q h1 h2 h3 h4 => by omega⟩, hk⟩
      case round =>
        clear hh hrow hk hll
        obtain ⟨z, l, rfl, hz1, hzm, hrow, hts, hk⟩ := hrel
        have hll := hts.out.1.len
        by_cases hz0 : 0 ≤ z
        · obtain ⟨k, rfl⟩ : ∃ k : Nat, z = k := ⟨z.toNat, by omega⟩
          have ek : ((k : Int) + 1).toNat = k + 1 := by omega
          have hts' := hts.out
          rw [ek] at hts'
          have b1 : (a : Int) + (k : Int) < (l0.length : Int) := by omega
          have b2 : (a : Int) < (l0.length : Int) := by omega
          have ca := hrow.out.at a (by omega)
          have ck := hrow.out.at (a + k) (by omega)
          have fa := hrow.out.free a
          have fk := hrow.out.free (a + k)
          have hlsw := swp_len l a (a + k)
          have hpop := heap_pop1 hts'.2.1 (by omega)
          have hc := fun W h => sift_any g cap (swp l a (a + k)) rest 0 k a (by omega) (by omega) (by omega) W h hpop
          rw [hlsw, hll] at hc
          have hsw := Lib.hid (fun (W : World) (h : Row W g l rest) => h.swapW a (a + k) (by omega) (by omega))
          have hfin := Lib.hid (fun l2 (h : Turned a (a + k) (swp l a (a + k)) l2) (hp : HeapFrom l2 a 0 k) => show Turned a (a + (m + 1)) l0 l2 ∧ HeapFrom l2 a 0 ((k : Int) - 1 + 1).toNat ∧ Tail l2 a (a + (m + 1)) (a + ((k : Int) - 1 + 1).toNat) from by
            rw [show ((k : Int) - 1 + 1).toNat = k by omega]
            exact ⟨(hts'.1.trans (Turned.swp l a (a + k) ⟨by omega, by omega⟩ ⟨by omega, by omega⟩ (by omega))).trans (h.wide (by omega) (by omega)), hp, heap_pop2 hts'.2.1 hts'.2.2 (by omega) (by omega) h⟩)
          replace hc := Lib.hid hc
          clear hts hts' hpop hlsw ek
          generalize swp l a (a + k) = ls at hsw hc hfin
          by_cases hk0 : k = 0
          · subst hk0
            have ca2 : wr.cell? ⟨g, a, none⟩ = some (.int .u64 (at_ l a : Nat)) := ca
            simp only [Nat.add_zero] at hsw
            clear ck fk
            generalize at_ l a = x at ca hsw
            clear ca2
            go_wp2_with fail
            go_region
            have hrow3 := Lib.hid (hsw.out _ hrow.out)
            have hk3 := Lib.hid (hk.out.swapW a a (.int .u64 x) (.int .u64 x))
            clear hsw ca fa hrow hk
            generalize ((wr.setCell ⟨g, a, none⟩ (.int .u64 (x : Nat))).setCell ⟨g, a, none⟩ (.int .u64 (x : Nat))).drew = w3 at hrow3 hk3 ⊢
            have hc3 := Lib.hid (hc.out w3 hrow3.out)
            clear hc
            go_wp2_with fail
            refine hc3.out.mono ?_
            rintro e w1 ⟨rfl, l', h1, h2, h3⟩
            have hh := Lib.hid (hfin.out l' (by simpa using h2.out.1) h2.out.2)
            have hk2 := Lib.hid (hk3.out.trans h3.out)
            clear hc3 h2 h3 hfin
            go_wp2_with fail
            go_roundw
            case rel => exact ⟨((0 : Nat) : Int) - 1, l', by go_num, by omega, by omega, h1, hh, hk2⟩
            case measure => simp [intOf] <;> omega
          · have hne : a ≠ a + k := by omega
            generalize at_ l a = x at ca hsw
            generalize at_ l (a + k) = y at ck hsw
            go_wp2_with fail
            go_region
            have hrow3 := Lib.hid (hsw.out _ hrow.out)
            have hk3 := Lib.hid (hk.out.swapW a (a + k) (.int .u64 y) (.int .u64 x))
            clear hsw ca ck fa fk hrow hk
            generalize ((wr.setCell ⟨g, a, none⟩ (.int .u64 (y : Nat))).setCell ⟨g, a + k, none⟩ (.int .u64 (x : Nat))).drew = w3 at hrow3 hk3 ⊢
            have hc3 := Lib.hid (hc.out w3 hrow3.out)
            clear hc
            go_wp2_with fail
            refine hc3.out.mono ?_
            rintro e w1 ⟨rfl, l', h1, h2, h3⟩
            have hh := Lib.hid (hfin.out l' (by simpa using h2.out.1) h2.out.2)
            have hk2 := Lib.hid (hk3.out.trans h3.out)
            clear hc3 h2 h3 hfin
            go_wp2_with fail
            go_roundw
            case rel => exact ⟨(k : Int) - 1, l', by go_num, by omega, by omega, h1, hh, hk2⟩
            case measure => simp [intOf] <;> omega
        · obtain rfl : z = -1 := by omega
          have hh := Lib.hid (show Turned a (a + (m + 1)) l0 l ∧ SortedOn l a (a + (m + 1)) from ⟨hts.out.1, fun p q h1 h2 h3 => hts.out.2.2 p q h1 h2 h3 (by show a + 0 ≤ q; omega)⟩)
          clear hts
          go_wp2_with fail
          go_end0
          exact ⟨rfl, l, hrow, hh, hk⟩
set_option maxRecDepth 100000 in
set_option maxHeartbeats 4000000 in
theorem reverse_any (g cap : Nat) (l0 : List Nat) (rest : List Value) (a b : Nat) (hab : a < b) (hfl : b ≤ l0.length) (hlen : l0.length ≤ 2305843009213693952) (W0 : World) (hr : Row W0 g l0 rest) :
    Calls Try.prog 76 #[.slice (some ⟨g, 0, none⟩) l0.length cap, .int .i64 a, .int .i64 b] W0 fun e W' => e = .returned (.tuple #[]) ∧ ∃ l', Hid (Row W' g l' rest) ∧ Hid (Turned a b l0 l') ∧ Hid (Kept1 W0 g W') := by
  replace hr := Lib.hid hr
  go_enter Try.func76, Try.ntmps76
  go_wp2_with fail
  go_loopw [6, 7] (fun v6 v7 wr => ∃ (i : Nat) (z : Int) (l : List Nat), v6 = .int .i64 i ∧ v7 = .int .i64 z ∧ a ≤ i ∧ i ≤ b ∧ z < b ∧ (a : Int) - 1 ≤ z ∧ Hid (Row wr g l rest) ∧ Hid (Turned a b l0 l) ∧ Hid (Kept1 W0 g wr)) (fun v6 v7 _ => (intOf v7 - intOf v6).toNat)
  case atStart => exact ⟨a, (b : Int) - 1, l0, rfl, by go_num, Nat.le_refl _, by omega, by omega, by omega, hr, Lib.hid (Turned.refl _ _ _), Lib.hid (Kept1.refl _ _)⟩
  case round =>
    clear hr
    obtain ⟨i, z, l, rfl, rfl, hai, hib, hzb, haz, hrow, hts, hk⟩ := hrel
    have hll := hts.out.len
    by_cases hlt : (i : Int) < z
    · obtain ⟨j, rfl⟩ : ∃ j : Nat, z = j := ⟨z.toNat, by omega⟩
      have hij : i < j := by omega
      have b1 : (i : Int) < (l0.length : Int) := by omega
      have b2 : (j : Int) < (l0.length : Int) := by omega
      have ca := hrow.out.at i (by omega)
      have ck := hrow.out.at j (by omega)
      have fa := hrow.out.free i
      have fk := hrow.out.free j
      have hne : i ≠ j := by omega
      have hsw := Lib.hid (fun (W : World) (h : Row W g l rest) => h.swapW i j (by omega) (by omega))
      have hh := Lib.hid (hts.out.trans (Turned.swp l i j ⟨by omega, by omega⟩ ⟨by omega, by omega⟩ (by omega)))
      clear hts
      generalize swp l i j = ls at hsw hh
      generalize at_ l i = x at ca hsw
      generalize at_ l j = y at ck hsw
      go_wp2_with fail
      go_region
      have hrow3 := Lib.hid (hsw.out _ hrow.out)
      have hk3 := Lib.hid (hk.out.swapW i j (.int .u64 y) (.int .u64 x))
      clear hsw ca ck fa fk hrow hk
      generalize ((wr.setCell ⟨g, i, none⟩ (.int .u64 (y : Nat))).setCell ⟨g, j, none⟩ (.int .u64 (x : Nat))).drew = w3 at hrow3 hk3 ⊢
      go_wp2_with fail
      go_roundw
      case rel => exact ⟨i + 1, (j : Int) - 1, ls, by go_num, by go_num, by omega, by omega, by omega, by omega, hrow3, hh, hk3⟩
      case measure => simp [intOf] <;> omega
    · have hle : z ≤ (i : Int) := by omega
      go_wp2_with fail
      go_end0
      exact ⟨rfl, l, hrow, hts, hk⟩
end Go.Proofs.Ytcnebfmlelcliaa
