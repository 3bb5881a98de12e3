/- Plain laws: what is written is read as it was, and what is read is written no longer. -/
import Derived.Test.YtifpmcfadmmkiaaDoorSqE
import Derived.Lib.IndexLaws
import Derived.Lib.Join
namespace Go.Proofs.YtifpmcfadmmkiaaDoor
open Go.RowKit

theorem digits_dig (u : Nat) : ∀ c ∈ Lib.decDigits u, isDig c = true := by
  induction u using Nat.strongRecOn with
  | _ u ih =>
    by_cases h : u < 10
    · rw [Lib.decDigits_one h]
      intro c hc
      obtain rfl := List.mem_singleton.1 hc
      exact (digit_byte u h).1
    · rw [decDigits_step u h]
      intro c hc
      rcases List.mem_append.1 hc with hc | hc
      · exact ih _ (by omega) c hc
      · obtain rfl := List.mem_singleton.1 hc
        exact (digit_byte _ (by omega)).1
theorem told_byte (u : Nat) : ∀ c ∈ toldL u, c ≠ 44 ∧ c ≠ 58 := by
  intro c hc
  unfold toldL at hc
  split at hc
  · obtain rfl := List.mem_singleton.1 hc; decide
  · have := digits_dig u c hc
    constructor <;> (rintro rfl; revert this; decide)
theorem told_one (u : Nat) (h : u ≤ 4294967295) : oneL (toldL u) = some u := by
  unfold oneL toldL
  by_cases h0 : u = 0
  · subst h0; simp
  · rw [if_neg h0]
    have hn : Lib.decDigits u ≠ [42] := fun e => by
      have := digits_dig u 42 (by rw [e]; simp)
      revert this; decide
    rw [if_neg hn, (numL_iff _ u).2 ⟨rfl, by unfold mxN; omega⟩]
    exact if_pos ⟨by omega, h⟩
theorem one_told {l : List UInt8} {u : Nat} (h : oneL l = some u) : toldL u = l := by
  rw [oneL] at h
  split at h
  · rename_i hl; cases h; rw [hl]; rfl
  · split at h
    · rename_i k hk
      split at h
      · rename_i hb
        cases h
        rw [toldL, if_neg (by omega)]
        exact ((numL_iff _ _).1 hk).1
      · cases h
    · cases h
theorem indexByte_no (c : UInt8) : ∀ l : List UInt8, (∀ x ∈ l, x ≠ c) → Lib.indexByte l c = -1
  | [], _ => rfl
  | b :: l, h => by
    have hb : b ≠ c := h b (by simp)
    rw [Lib.indexByte, if_neg (by simpa using hb), indexByte_no c l (fun x hx => h x (by simp [hx]))]
    rfl
theorem indexByte_at (c : UInt8) (b : List UInt8) : ∀ a : List UInt8, (∀ x ∈ a, x ≠ c) → Lib.indexByte (a ++ c :: b) c = (a.length : Nat)
  | [], _ => by simp [Lib.indexByte]
  | d :: a, h => by
    have hb : d ≠ c := h d (by simp)
    have ih := indexByte_at c b a (fun x hx => h x (by simp [hx]))
    rw [List.cons_append, Lib.indexByte, if_neg (by simpa using hb), ih, if_neg (by simp)]
    simp
theorem cut_no {a : List UInt8} (h : ∀ x ∈ a, x ≠ 58) : Lib.cut a [58] = (a, [], false) := by
  rw [Lib.cut, Lib.index_one, indexByte_no 58 a h]; rfl
theorem cut_at {a : List UInt8} (h : ∀ x ∈ a, x ≠ 58) (b : List UInt8) : Lib.cut (a ++ 58 :: b) [58] = (a, b, true) := by
  rw [Lib.cut, Lib.index_one, indexByte_at 58 b a h, if_pos (by omega)]
  simp
theorem range_rng (r : Rng) (h1 : r.1 ≤ 4294967295) (h2 : r.2 ≤ 4294967295) : rangeL (rngL r) = some r := by
  obtain ⟨x, y⟩ := r
  have hx : ∀ c ∈ toldL x, c ≠ 58 := fun c hc => (told_byte x c hc).2
  unfold rangeL endA endB rngL
  dsimp only at h1 h2 ⊢
  split
  · rename_i h
    rw [cut_no hx, told_one x h1]
    simp only [Bool.false_eq_true, if_false]
    rw [told_one x h1, h]; rfl
  · rw [cut_at hx, told_one x h1]
    simp only [if_true]
    rw [told_one y h2]; rfl
theorem rng_bytes (r : Rng) : ∀ c ∈ rngL r, c ≠ 44 := by
  intro c hc
  unfold rngL at hc
  split at hc
  · exact (told_byte _ c hc).1
  · rcases List.mem_append.1 hc with hc | hc
    · exact (told_byte _ c hc).1
    · rcases List.mem_cons.1 hc with rfl | hc
      · decide
      · exact (told_byte _ c hc).1
theorem spl_no (c : UInt8) : ∀ a : List UInt8, (∀ x ∈ a, x ≠ c) → spl c a = [a]
  | [], _ => rfl
  | d :: a, h => by
    rw [spl, if_neg (h d (by simp)), spl_no c a (fun x hx => h x (by simp [hx]))]
theorem spl_at (c : UInt8) (b : List UInt8) : ∀ a : List UInt8, (∀ x ∈ a, x ≠ c) → spl c (a ++ c :: b) = a :: spl c b
  | [], _ => by rw [List.nil_append, spl, if_pos rfl]
  | d :: a, h => by
    rw [List.cons_append, spl, if_neg (h d (by simp)), spl_at c b a (fun x hx => h x (by simp [hx]))]
theorem spl_join (c : UInt8) : ∀ (r : List (List UInt8)) (x : List UInt8), (∀ y ∈ x :: r, ∀ d ∈ y, d ≠ c) → spl c (x ++ Lib.joinTail [c] r) = x :: r
  | [], x, h => by
    have e : x ++ Lib.joinTail [c] [] = x := List.append_nil x
    rw [e, spl_no c x (h x (by simp))]
  | y :: r, x, h => by
    have e : x ++ Lib.joinTail [c] (y :: r) = x ++ c :: (y ++ Lib.joinTail [c] r) := by
      show x ++ (([c] ++ y) ++ Lib.joinTail [c] r) = _
      simp
    rw [e, spl_at c _ x (h x (by simp)), spl_join c r y (fun z hz => h z (by simp [hz]))]
theorem allR_rng : ∀ rs : List Rng, rs.all rngOk = true → allR (rs.map rngL) = some rs
  | [], _ => rfl
  | r :: l, h => by
    rw [List.all_cons, Bool.and_eq_true] at h
    have hb : max r.1 r.2 ≤ 4294967295 := of_decide_eq_true h.1
    rw [List.map_cons, allR, range_rng r (by omega) (by omega), allR_rng l h.2]
theorem print_parts {rs : List Rng} (h : printOk rs = true) : 1 ≤ rs.length ∧ rs.length ≤ 64 ∧ rs.all rngOk = true := by
  unfold printOk at h
  simp only [Bool.and_eq_true, decide_eq_true_eq] at h
  exact ⟨h.1.1, h.1.2, h.2⟩
/-- what is written is read as it was -/
theorem parse_print {rs : List Rng} (h : printOk rs = true) : parseL (printL rs) = some rs := by
  obtain ⟨h1, h2, h3⟩ := print_parts h
  have e : spl 44 (printL rs) = rs.map rngL := by
    cases rs with
    | nil => simp at h1
    | cons r l =>
      rw [printL, List.map_cons, Lib.join_cons]
      exact spl_join 44 _ _ (fun y hy d hd => by
        rw [← List.map_cons] at hy
        obtain ⟨z, _, rfl⟩ := List.mem_map.1 hy
        exact rng_bytes z d hd)
  rw [parseL, e, List.length_map, if_neg (by omega), allR_rng rs h3]
theorem parse_empty : parseL [] = none := by kernel_rfl
theorem spl_lens (c : UInt8) : ∀ l : List UInt8, Lib.lens (spl c l) + (spl c l).length = l.length + 1
  | [] => rfl
  | d :: l => by
    have ih := spl_lens c l
    by_cases h : d = c
    · rw [spl, if_pos h]
      simp only [Lib.lens, List.map_cons, List.sum_cons, List.length_cons, List.length_nil] at ih ⊢
      omega
    · obtain ⟨x, r, e1, e2⟩ := spl_skip c d l h
      rw [e2]
      rw [e1] at ih
      simp only [Lib.lens, List.map_cons, List.sum_cons, List.length_cons] at ih ⊢
      omega
theorem cut_parts (p : List UInt8) : (Lib.cut p [58]).2.2 = true → p = (Lib.cut p [58]).1 ++ 58 :: (Lib.cut p [58]).2.1 := by
  unfold Lib.cut
  rw [Lib.index_one]
  split
  · rename_i h
    intro _
    obtain ⟨i, hi⟩ : ∃ i : Nat, Lib.indexByte p 58 = i := ⟨_, (Int.toNat_of_nonneg h).symm⟩
    obtain ⟨h1, _⟩ := Lib.indexByte_some hi
    rw [hi]
    obtain ⟨hlt, hp⟩ := List.getElem?_eq_some_iff.1 h1
    show p = p.take i ++ 58 :: p.drop (i + 1)
    rw [← hp, ← List.drop_eq_getElem_cons hlt, List.take_append_drop]
  · intro h; cases h
theorem one_len {l : List UInt8} {u : Nat} (h : oneL l = some u) : (toldL u).length = l.length := by rw [one_told h]
theorem range_len {p : List UInt8} {r : Rng} (h : rangeL p = some r) : (rngL r).length ≤ p.length ∧ rngOk r = true := by
  obtain ⟨x, y⟩ := r
  unfold rangeL at h
  cases ha : oneL (endA p) with
  | none => rw [ha] at h; cases h
  | some a =>
    cases hb : oneL (endB p) with
    | none => rw [ha, hb] at h; cases h
    | some b =>
      rw [ha, hb] at h
      injection h with h
      injection h with h1 h2
      subst h1 h2
      have la := one_len ha
      have lb := one_len hb
      have qa := one_le ha
      have qb := one_le hb
      refine ⟨?_, by unfold rngOk; simp; omega⟩
      unfold endA at la
      unfold endB at lb
      have hc := cut_parts p
      have hl := (cut_len p).1
      by_cases ht : (Lib.cut p [58]).2.2 = true
      · have e := congrArg List.length (hc ht)
        rw [if_pos ht] at lb
        rw [List.length_append, List.length_cons] at e
        unfold rngL
        dsimp only
        split
        · omega
        · rw [List.length_append, List.length_cons]; omega
      · have e : a = b := by
          rw [endB, if_neg ht] at hb
          rw [endA] at ha
          rw [ha] at hb
          injection hb
        unfold rngL
        dsimp only
        rw [if_pos e.symm]
        omega
theorem allR_len : ∀ (l : List (List UInt8)) (rs : List Rng), allR l = some rs → rs.length = l.length ∧ Lib.lens (rs.map rngL) ≤ Lib.lens l ∧ rs.all rngOk = true
  | [], rs, h => by cases h; exact ⟨rfl, Nat.le_refl _, rfl⟩
  | p :: l, rs, h => by
    rw [allR] at h
    cases hp : rangeL p with
    | none => rw [hp] at h; cases h
    | some r =>
      rw [hp] at h
      cases hl : allR l with
      | none => rw [hl] at h; cases h
      | some t =>
        rw [hl] at h
        cases h
        obtain ⟨h1, h2, h3⟩ := allR_len l t hl
        obtain ⟨g1, g2⟩ := range_len hp
        refine ⟨by simp [h1], ?_, by rw [List.all_cons, g2, h3]; rfl⟩
        simp only [Lib.lens, List.map_cons, List.sum_cons] at h2 ⊢
        omega
/-- what is read is written, and no longer -/
theorem print_parse {s : List UInt8} {rs : List Rng} (h : parseL s = some rs) : printOk rs = true ∧ (printL rs).length ≤ s.length := by
  unfold parseL at h
  split at h
  · cases h
  · rename_i h64
    obtain ⟨h1, h2, h3⟩ := allR_len _ _ h
    have hs := spl_lens 44 s
    have hne := spl_ne 44 s
    have hpos : 1 ≤ (spl 44 s).length := by
      cases hsp : spl 44 s with
      | nil => exact absurd hsp hne
      | cons a b => simp
    refine ⟨by unfold printOk; rw [h3]; simp; omega, ?_⟩
    cases rs with
    | nil => rw [← h1] at hpos; simp at hpos
    | cons r l =>
      rw [printL, List.map_cons, Lib.join_length, ← List.map_cons]
      simp only [List.length_cons, List.length_nil, List.length_map] at h1 ⊢
      omega
end Go.Proofs.YtifpmcfadmmkiaaDoor
