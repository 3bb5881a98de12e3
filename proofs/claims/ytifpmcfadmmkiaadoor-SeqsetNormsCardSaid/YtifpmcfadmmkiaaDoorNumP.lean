/- Plain laws of numbers written in digits: what is read of digits, and what digits a number has. No program in sight. -/
import Derived.Test.YtifpmcfadmmkiaaDoorKit
import Derived.Lib.ItoaMem
import Derived.Lib.ItoaLen
namespace Go.Proofs.YtifpmcfadmmkiaaDoor
open Go.RowKit

/-- the greatest number: 2^63 - 1 -/
def mxN : Nat := 9223372036854775807
def isDig (c : UInt8) : Bool := decide (48 ≤ c.toNat) && decide (c.toNat ≤ 57)
/-- the number that digits spell, behind acc; none: a byte that is no digit -/
def dv (acc : Nat) : List UInt8 → Option Nat
  | [] => some acc
  | c :: r => if isDig c then dv (acc * 10 + (c.toNat - 48)) r else none
/-- read from the left: some (some u): the number; some none: it is too great; none: a byte that is no digit -/
def pu (acc : Nat) : List UInt8 → Option (Option Nat)
  | [] => some (some acc)
  | c :: r => if isDig c then (if mxN < acc * 10 + (c.toNat - 48) then some none else pu (acc * 10 + (c.toNat - 48)) r) else none
theorem pu_dig (acc : Nat) (c : UInt8) (r : List UInt8) (h : isDig c = true) (hm : ¬ mxN < acc * 10 + (c.toNat - 48)) : pu acc (c :: r) = pu (acc * 10 + (c.toNat - 48)) r := by rw [pu, if_pos h, if_neg hm]
theorem pu_big (acc : Nat) (c : UInt8) (r : List UInt8) (h : isDig c = true) (hm : mxN < acc * 10 + (c.toNat - 48)) : pu acc (c :: r) = some none := by rw [pu, if_pos h, if_pos hm]
theorem pu_no (acc : Nat) (c : UInt8) (r : List UInt8) (h : isDig c = false) : pu acc (c :: r) = none := by rw [pu, if_neg (by rw [h]; simp)]
theorem dv_ge : ∀ (l : List UInt8) (acc u : Nat), dv acc l = some u → acc ≤ u
  | [], acc, u, h => by simp [dv] at h; omega
  | c :: r, acc, u, h => by
    rw [dv] at h
    split at h
    · have := dv_ge r _ u h; omega
    · cases h
theorem pu_iff : ∀ (l : List UInt8) (acc u : Nat), acc ≤ mxN → (pu acc l = some (some u) ↔ dv acc l = some u ∧ u ≤ mxN)
  | [], acc, u, ha => by simp only [pu, dv, Option.some.injEq]; constructor <;> (intro h; first | (subst h; exact ⟨rfl, ha⟩) | exact h.1)
  | c :: r, acc, u, ha => by
    rw [pu, dv]
    split
    · split
      · rename_i hm
        constructor
        · intro h; cases h
        · intro ⟨h, hu⟩; have := dv_ge r _ u h; omega
      · rename_i hm
        exact pu_iff r _ u (by omega)
    · simp
theorem dv_snoc (c : UInt8) : ∀ (l : List UInt8) (acc : Nat), dv acc (l ++ [c]) = (dv acc l).bind fun u => if isDig c then some (u * 10 + (c.toNat - 48)) else none
  | [], acc => by simp [dv]
  | d :: r, acc => by
    rw [List.cons_append, dv, dv]
    split
    · exact dv_snoc c r _
    · rfl
theorem digit_byte (d : Nat) (h : d < 10) : isDig (UInt8.ofNat (48 + d)) = true ∧ (UInt8.ofNat (48 + d)).toNat - 48 = d := by
  have e : (UInt8.ofNat (48 + d)).toNat = 48 + d := by rw [UInt8.toNat_ofNat']; omega
  exact ⟨by unfold isDig; rw [e]; simp; omega, by omega⟩
/-- a number's digits spell it -/
theorem dv_digits (u : Nat) : dv 0 (Lib.decDigits u) = some u := by
  induction u using Nat.strongRecOn with
  | _ u ih =>
    by_cases h : u < 10
    · rw [Lib.decDigits_one h]
      have := digit_byte u h
      rw [dv, if_pos this.1, this.2, dv]; simp
    · rw [Lib.decDigits, dif_neg h, dv_snoc, ih (u / 10) (by omega)]
      have := digit_byte (u % 10) (by omega)
      rw [Option.bind_some, if_pos this.1, this.2, show u / 10 * 10 + u % 10 = u from by omega]
theorem digits_ne (u : Nat) : Lib.decDigits u ≠ [] := by
  intro h
  have := Lib.nDigits_pos u
  rw [← Lib.decDigits_length, h] at this; simp at this
theorem byte_of_dig (c : UInt8) (h : isDig c = true) : UInt8.ofNat (48 + (c.toNat - 48)) = c := by
  simp [isDig] at h
  rw [show 48 + (c.toNat - 48) = c.toNat from by omega]; simp
/-- no nought ahead -/
def lead (l : List UInt8) : Bool := match l with | [] => false | [_] => true | c :: _ => c != 48
theorem dv_pos_of_lead : ∀ (l : List UInt8) (c : UInt8) (u : Nat), c ≠ 48 → dv 0 (c :: l) = some u → 1 ≤ u := by
  intro l c u hc h
  rw [dv] at h
  split at h
  · rename_i hd
    have := dv_ge l _ u h
    simp [isDig] at hd
    have : c.toNat ≠ 48 := fun e => hc (UInt8.toNat_inj.1 e)
    omega
  · cases h
/-- digits without a nought ahead are the digits of the number that they spell -/
theorem digits_of_dv : ∀ (n : Nat) (l : List UInt8) (u : Nat), l.length = n → lead l = true → dv 0 l = some u → Lib.decDigits u = l
  | 0, l, u, hn, hl, _ => by rw [List.eq_nil_of_length_eq_zero hn] at hl; cases hl
  | n + 1, l, u, hn, hl, h => by
    have hne : l ≠ [] := fun e => by rw [e] at hn; cases hn
    have e := List.dropLast_concat_getLast hne
    generalize l.getLast hne = c at e
    generalize hi : l.dropLast = i at e
    have hin : i.length = n := by rw [← hi, List.length_dropLast, hn]; rfl
    rw [← e, dv_snoc] at h
    match i, hin with
    | [], _ =>
      simp only [dv, Option.bind_some] at h
      split at h
      · rename_i hd
        have hu : u = c.toNat - 48 := by simpa using h.symm
        have hd' := hd
        simp [isDig] at hd'
        rw [← e, hu, Lib.decDigits_one (by omega), List.nil_append, byte_of_dig c hd]
      · cases h
    | b :: i', hin =>
      have hb : b ≠ 48 := by
        rw [← e] at hl
        cases i' with
        | nil => simpa [lead] using hl
        | cons b' i'' => simpa [lead] using hl
      cases hv : dv 0 (b :: i') with
      | none => rw [hv] at h; cases h
      | some v =>
        rw [hv, Option.bind_some] at h
        split at h
        · rename_i hd
          have hu : u = v * 10 + (c.toNat - 48) := by simpa using h.symm
          have hpos := dv_pos_of_lead i' b v hb hv
          have hlead : lead (b :: i') = true := by
            cases i' with
            | nil => rfl
            | cons b' i'' => simpa [lead] using hb
          have ih := digits_of_dv n (b :: i') v hin hlead hv
          have hd' := hd
          simp [isDig] at hd'
          rw [hu, Lib.decDigits, dif_neg (by omega), show (v * 10 + (c.toNat - 48)) / 10 = v from by omega, show (v * 10 + (c.toNat - 48)) % 10 = c.toNat - 48 from by omega, ih, byte_of_dig c hd, e]
        · cases h
theorem nDigits_pow (u k : Nat) (hk : 1 ≤ k) (h : u < 10 ^ k) : Lib.nDigits u ≤ k := by
  induction k generalizing u with
  | zero => omega
  | succ k ih =>
    by_cases hu : u < 10
    · rw [Lib.nDigits_small hu]; omega
    · rw [Lib.nDigits_big hu]
      have := ih (u / 10) (by rcases Nat.eq_zero_or_pos k with hk0 | hk0
                              · subst hk0; simp at h; omega
                              · exact hk0) (by rw [Nat.pow_succ] at h; omega)
      omega
/-- what a text is read as -/
def numL (l : List UInt8) : Option Nat := match pu 0 l with
  | some (some u) => if (Lib.decDigits u == l) then some u else none
  | _ => none
theorem numL_iff (l : List UInt8) (u : Nat) : numL l = some u ↔ Lib.decDigits u = l ∧ u ≤ mxN := by
  constructor
  · intro h
    unfold numL at h
    cases hp : pu 0 l with
    | none => rw [hp] at h; cases h
    | some o =>
      cases o with
      | none => rw [hp] at h; cases h
      | some v =>
        rw [hp] at h
        simp only at h
        split at h
        · rename_i he
          cases h
          exact ⟨eq_of_beq he, ((pu_iff l 0 u (by decide)).1 hp).2⟩
        · cases h
  · rintro ⟨rfl, hu⟩
    have hp := (pu_iff (Lib.decDigits u) 0 u (by decide)).2 ⟨dv_digits u, hu⟩
    unfold numL
    rw [hp]
    simp

theorem digits_head (u : Nat) (h : 1 ≤ u) : ∃ c r, Lib.decDigits u = c :: r ∧ c ≠ 48 := by
  induction u using Nat.strongRecOn with
  | _ u ih =>
    by_cases hu : u < 10
    · refine ⟨_, [], Lib.decDigits_one hu, fun e => ?_⟩
      have e' := congrArg UInt8.toNat e
      rw [UInt8.toNat_ofNat'] at e'
      have : (48 : UInt8).toNat = 48 := rfl
      omega
    · obtain ⟨c, r, e, hc⟩ := ih (u / 10) (by omega) (by omega)
      exact ⟨c, r ++ [UInt8.ofNat (48 + u % 10)], by rw [Lib.decDigits, dif_neg hu, e]; rfl, hc⟩
theorem numL_none_len (l : List UInt8) (h : 19 < l.length) : numL l = none := by
  cases hn : numL l with
  | none => rfl
  | some u =>
    obtain ⟨e, hu⟩ := (numL_iff l u).1 hn
    have := nDigits_pow u 19 (by omega) (by unfold mxN at hu; omega)
    rw [← Lib.decDigits_length, e] at this
    omega
theorem numL_nil : numL [] = none := by
  cases hn : numL [] with
  | none => rfl
  | some u => exact absurd ((numL_iff [] u).1 hn).1 (digits_ne u)
theorem numL_nought (r : List UInt8) (h : r ≠ []) : numL (48 :: r) = none := by
  cases hn : numL (48 :: r) with
  | none => rfl
  | some u =>
    obtain ⟨e, hu⟩ := (numL_iff _ u).1 hn
    rcases Nat.eq_zero_or_pos u with h0 | h0
    · subst h0
      rw [Lib.decDigits_one (by omega)] at e
      exact absurd (List.cons.inj e).2.symm h
    · obtain ⟨c, r', e', hc⟩ := digits_head u h0
      rw [e'] at e
      exact absurd (List.cons.inj e).1 hc
theorem numL_dv (l : List UInt8) (h : lead l = true) : numL l = match dv 0 l with | some u => if u ≤ mxN then some u else none | none => none := by
  cases hd : dv 0 l with
  | none =>
    cases hn : numL l with
    | none => rfl
    | some u =>
      obtain ⟨e, hu⟩ := (numL_iff _ u).1 hn
      rw [← e, dv_digits] at hd; cases hd
  | some u =>
    have e := digits_of_dv l.length l u rfl h hd
    simp only
    split
    · rename_i hu; exact (numL_iff l u).2 ⟨e, hu⟩
    · rename_i hu
      cases hn : numL l with
      | none => rfl
      | some v =>
        obtain ⟨e', hv⟩ := (numL_iff _ v).1 hn
        have := dv_digits v
        rw [e', hd] at this
        cases this
        exact absurd hv hu
theorem numL_digits (u : Nat) : numL (Lib.decDigits u) = if u ≤ mxN then some u else none := by
  split
  · rename_i h; exact (numL_iff _ u).2 ⟨rfl, h⟩
  · rename_i h
    cases hn : numL (Lib.decDigits u) with
    | none => rfl
    | some v =>
      obtain ⟨e', hv⟩ := (numL_iff _ v).1 hn
      have h1 := dv_digits v
      rw [e', dv_digits] at h1
      cases h1
      exact absurd hv h
end Go.Proofs.YtifpmcfadmmkiaaDoor
