/- What the ranges of rising numbers are: plain. -/
import Derived.Test.YtifpmcfadmmkiaaDoorSqL
import Derived.Test.YtifpmcfadmmkiaaDoorSqG
namespace Go.Proofs.YtifpmcfadmmkiaaDoor
open Go.RowKit

structure NInv (ts : List Nat) (rs : List Rng) : Prop where
  one : ∀ r ∈ rs, 1 ≤ r.1 ∧ r.1 ≤ r.2
  gap : rs.Pairwise (fun p q => p.2 + 2 ≤ q.1)
  mem : ∀ x, (∃ r ∈ rs, r.1 ≤ x ∧ x ≤ r.2) ↔ x ∈ ts
  last : ∀ i r, rs = i ++ [r] → r.2 ∈ ts ∧ ∀ t ∈ ts, t ≤ r.2
  nil : rs = [] → ts = []
theorem NInv.snoc {ts : List Nat} {rs : List Rng} (h : NInv ts rs) (n : Nat) (hn : 1 ≤ n) (hlt : ∀ t ∈ ts, t < n) : NInv (ts ++ [n]) (normStep rs n) := by
  rcases List.eq_nil_or_concat rs with rfl | ⟨i, ⟨a, b⟩, rfl⟩
  · have e : ts = [] := h.nil rfl
    subst e
    have e2 : normStep [] n = [(n, n)] := rfl
    rw [e2]
    refine ⟨fun r hr => ?_, List.pairwise_singleton _ _, fun x => ?_, fun i r hr => ?_, fun h => by cases h⟩
    · rw [List.mem_singleton.1 hr]; exact ⟨hn, Nat.le_refl _⟩
    · simp
      exact ⟨fun h => by omega, fun h => by omega⟩
    · cases i with
      | nil => simp at hr; subst hr; simp
      | cons y i => simp at hr
  · rw [List.concat_eq_append] at h ⊢
    obtain ⟨hb, hbl⟩ := h.last i (a, b) rfl
    have hbn := hlt b hb
    have hab := h.one (a, b) (by simp)
    dsimp only at hab
    by_cases e : b + 1 = n
    · rw [normStep_on _ _ _ _ e]
      refine ⟨fun r hr => ?_, ?_, fun x => ?_, fun i' r hr => ?_, fun h => by simp at h⟩
      · rcases List.mem_append.1 hr with hr | hr
        · exact h.one r (by simp [hr])
        · rw [List.mem_singleton.1 hr]; dsimp only; omega
      · have := h.gap
        rw [List.pairwise_append] at this ⊢
        refine ⟨this.1, List.pairwise_singleton _ _, fun p hp q hq => ?_⟩
        rw [List.mem_singleton.1 hq]
        exact this.2.2 p hp (a, b) (by simp)
      · rw [List.mem_append, ← h.mem x]
        constructor
        · rintro ⟨r, hr, h1, h2⟩
          rcases List.mem_append.1 hr with hr | hr
          · exact .inl ⟨r, by simp [hr], h1, h2⟩
          · rw [List.mem_singleton.1 hr] at h1 h2
            dsimp only at h1 h2
            by_cases hx : x = n
            · exact .inr (by simp [hx])
            · exact .inl ⟨(a, b), by simp, h1, by dsimp only; omega⟩
        · rintro (⟨r, hr, h1, h2⟩ | hx)
          · rcases List.mem_append.1 hr with hr | hr
            · exact ⟨r, by simp [hr], h1, h2⟩
            · rw [List.mem_singleton.1 hr] at h1 h2
              exact ⟨(a, n), by simp, h1, by dsimp only at h2 ⊢; omega⟩
          · rw [List.mem_singleton.1 hx]
            exact ⟨(a, n), by simp, by dsimp only; omega, Nat.le_refl _⟩
      · obtain ⟨_, e2⟩ := List.append_inj' hr rfl
        obtain rfl : (a, n) = r := by simpa using e2
        refine ⟨by simp, fun t ht => ?_⟩
        rcases List.mem_append.1 ht with ht | ht
        · have := hlt t ht; dsimp only; omega
        · rw [List.mem_singleton.1 ht]; exact Nat.le_refl _
    · rw [normStep_new _ _ _ _ e]
      refine ⟨fun r hr => ?_, ?_, fun x => ?_, fun i' r hr => ?_, fun h => by simp at h⟩
      · rcases List.mem_append.1 hr with hr | hr
        · exact h.one r hr
        · rw [List.mem_singleton.1 hr]; exact ⟨hn, Nat.le_refl _⟩
      · rw [List.pairwise_append]
        refine ⟨h.gap, List.pairwise_singleton _ _, fun p hp q hq => ?_⟩
        rw [List.mem_singleton.1 hq]
        dsimp only
        have : p.2 ∈ ts := (h.mem p.2).1 ⟨p, hp, (h.one p hp).2, Nat.le_refl _⟩
        have := hbl _ this
        dsimp only at this
        omega
      · rw [List.mem_append, ← h.mem x]
        constructor
        · rintro ⟨r, hr, h1, h2⟩
          rcases List.mem_append.1 hr with hr | hr
          · exact .inl ⟨r, hr, h1, h2⟩
          · rw [List.mem_singleton.1 hr] at h1 h2
            dsimp only at h1 h2
            exact .inr (by simp; omega)
        · rintro (⟨r, hr, h1, h2⟩ | hx)
          · exact ⟨r, List.mem_append_left _ hr, h1, h2⟩
          · rw [List.mem_singleton.1 hx]
            exact ⟨(n, n), by simp, Nat.le_refl _, Nat.le_refl _⟩
      · obtain ⟨_, e2⟩ := List.append_inj' hr rfl
        obtain rfl : (n, n) = r := by simpa using e2
        refine ⟨by simp, fun t ht => ?_⟩
        rcases List.mem_append.1 ht with ht | ht
        · have := hlt t ht; dsimp only; omega
        · rw [List.mem_singleton.1 ht]; exact Nat.le_refl _
theorem NInv.nil0 : NInv [] (normF []) := ⟨fun r hr => by simp [normF] at hr, List.Pairwise.nil, fun x => by simp [normF], fun i r hr => by simp [normF] at hr, fun _ => rfl⟩
theorem ninv_all (ts : List Nat) (h1 : ∀ t ∈ ts, 1 ≤ t) (h2 : ts.Pairwise (· < ·)) : NInv ts (normF ts) := by
  have key : ∀ k, k ≤ ts.length → NInv (ts.take k) (normF (ts.take k)) := fun k => by
    induction k with
    | zero => intro _; exact NInv.nil0
    | succ k ih =>
      intro hk
      have e := List.take_succ_eq_append_getElem (l := ts) (show k < ts.length by omega)
      rw [e, normF_snoc]
      refine (ih (by omega)).snoc _ (h1 _ (List.getElem_mem _)) (fun t ht => ?_)
      obtain ⟨j, hj, rfl⟩ := List.mem_iff_getElem.1 ht
      rw [List.length_take] at hj
      rw [List.getElem_take]
      exact List.pairwise_iff_getElem.1 h2 j k (by omega) (by omega) (by omega)
  have := key ts.length (Nat.le_refl _)
  rwa [List.take_length] at this
theorem Rising.ninv {of ts : List Nat} (h : Rising of ts) : NInv ts (normF ts) := by
  refine ninv_all ts (fun t ht => ((h.2 t).1 ht).1) ?_
  have := h.1.1
  refine (List.pairwise_iff_getElem.2 fun i j hi hj hij => ?_)
  have e1 := List.pairwise_iff_getElem.1 h.1.2 i j hi hj hij
  have e2 := List.pairwise_iff_getElem.1 this i j hi hj hij
  omega
theorem hasOne_iff {r : Rng} (h : 1 ≤ r.1 ∧ r.1 ≤ r.2) (x : Nat) : hasOne 0 x r = true ↔ r.1 ≤ x ∧ x ≤ r.2 := by
  unfold hasOne realI
  rw [if_neg (by omega), if_neg (by omega)]
  simp only [Bool.and_eq_true, decide_eq_true_eq]
  omega
theorem NInv.has {ts : List Nat} {rs : List Rng} (h : NInv ts rs) (x : Nat) : hasL rs 0 x = decide (x ∈ ts) := by
  rw [Bool.eq_iff_iff, decide_eq_true_eq, ← h.mem x]
  unfold hasL
  rw [List.any_eq_true]
  exact ⟨fun ⟨r, hr, hx⟩ => ⟨r, hr, (hasOne_iff (h.one r hr) x).1 hx⟩, fun ⟨r, hr, hx⟩ => ⟨r, hr, (hasOne_iff (h.one r hr) x).2 hx⟩⟩
end Go.Proofs.YtifpmcfadmmkiaaDoor
