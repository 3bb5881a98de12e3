/- The walks of the statements WordAtoms and WordNumbers: each answers true, and turns nothing that was there. -/
import Derived.Test.YtphahhmfijgalaaDoorWordQ
import Derived.OpenShut
namespace Go.Proofs.YtphahhmfijgalaaDoor
open Go.RowKit

theorem retNum_same {l : List UInt8} {k k' : Nat} {ok ok' : Bool} (h : Hid (numL l = (if ok then some k else none) ∧ (ok = false → k = 0))) (h' : Hid (numL l = (if ok' then some k' else none) ∧ (ok' = false → k' = 0))) : k = k' ∧ ok = ok' := by
  obtain ⟨a, b⟩ := h.out
  obtain ⟨a', b'⟩ := h'.out
  rw [a] at a'
  cases ok <;> cases ok' <;> simp at a' b b'
  · exact ⟨by rw [b, b'], rfl⟩
  · exact ⟨a', rfl⟩
set_option maxHeartbeats 2000000 in
theorem wordAtoms_any (s : ByteArray) (n : Int) (hs : s.size ≤ 140737488351232) (hn : (Lit.int .u64 n).wf = true) (w : World) (ht : Tab w) (he : Errs w) :
    Calls Tryd.prog 7 #[.string s, .int .u64 n] w fun e w' => e = .returned (.bool true) ∧ Below w.heap.size w w' := by
  have hs' : s.size ≤ maxLen := by unfold maxLen; omega
  obtain ⟨u, hu, hu64⟩ : ∃ u : Nat, n = u ∧ u < 18446744073709551616 := by
    have := bounds_u64 hn
    exact ⟨n.toNat, by omega, by omega⟩
  subst hu
  replace hu64 := Lib.hid hu64
  clear hn
  go_enter Tryd.func7, Tryd.ntmps7
  go_wp2_with fail
  refine (number_any s hs _ ht he).mono ?_
  rintro e w1 ⟨k1, ok1, rfl, h1, b1⟩
  go_wp2_with fail
  refine (refNumber_any s hs _).mono ?_
  rintro e w2 ⟨k2, ok2, rfl, h2, b2⟩
  have b2 := below_mono b1 b1.size b2
  obtain ⟨rfl, rfl⟩ := retNum_same h1 h2
  clear h1 h2
  go_wp2_with fail
  refine (alive_any _ (ht.later b2)).mono ?_
  rintro e w3 ⟨rfl, b3⟩
  have b3 := below_mono b2 b2.size b3
  go_wp2_with fail
  refine (upperS_any s hs' _).mono ?_
  rintro e w4 ⟨u4, rfl, h4, b4⟩
  have b4 := below_mono b3 b3.size b4
  go_wp2_with fail
  refine (refUpperS_any s hs' _).mono ?_
  rintro e w5 ⟨u5, rfl, h5, b5⟩
  have b5 := below_mono b4 b4.size b5
  have e1 := eqS h4 h5
  go_wp2_with fail
  refine (atom_any s hs' _).mono ?_
  rintro e w' ⟨rfl, rfl⟩
  go_wp2_with fail
  refine (refAtom_any s hs' _).mono ?_
  rintro e w' ⟨rfl, rfl⟩
  go_wp2_with fail
  refine (digits_any u hu64.out _ (ht.later b5)).mono ?_
  rintro e w6 ⟨u6, rfl, h6, b6⟩
  have b6 := below_mono b5 b5.size b6
  go_wp2_with fail
  refine (refDigits_any u hu64.out _).mono ?_
  rintro e w7 ⟨u7, rfl, h7, b7⟩
  have b7 := below_mono b6 b6.size b7
  have e2 := eqS h6 h7
  go_wp2_with fail
  go_ret
  exact ⟨rfl, b7⟩

set_option maxHeartbeats 2000000 in
theorem wordNumbers_any (n : Int) (s : ByteArray) (hn : (Lit.int .u64 n).wf = true) (hs : s.size ≤ 140737488351232) (w : World) (ht : Tab w) (he : Errs w) :
    Calls Tryd.prog 8 #[.int .u64 n, .string s] w fun e w' => e = .returned (.bool true) ∧ Below w.heap.size w w' := by
  obtain ⟨u, hu, hu64⟩ : ∃ u : Nat, n = u ∧ u < 18446744073709551616 := by
    have := bounds_u64 hn
    exact ⟨n.toNat, by omega, by omega⟩
  subst hu
  replace hu64 := Lib.hid hu64
  clear hn
  obtain ⟨a, haa⟩ : ∃ a : Int, a = (u : Int) := ⟨_, rfl⟩
  have hdl : (Lib.decDigits u).length ≤ 20 := by rw [Lib.decDigits_length]; exact Lib.nDigits_le20 u hu64.out
  rw [← haa]
  have hds : Calls Tryd.prog 26 #[.int .u64 a] = Calls Tryd.prog 26 #[.int .u64 (u : Int)] := by rw [haa]
  replace haa := Lib.hid haa
  replace hds := Lib.hid hds
  go_enter Tryd.func8, Tryd.ntmps8
  go_wp2_with fail
  refine (alive_any _ ht).mono ?_
  rintro e w1 ⟨rfl, b1⟩
  go_wp2_with fail
  rw [hds.out]
  refine (digits_any u hu64.out _ (ht.later b1)).mono ?_
  rintro e w2 ⟨o, rfl, ho, b2⟩
  have b2 := below_mono b1 b1.size b2
  go_wp2_with fail
  refine (number_any o (by rw [size_len, ho.out]; omega) _ (ht.later b2) (he.later b2)).mono ?_
  rintro e w3 ⟨k3, ok3, rfl, h3, b3⟩
  have b3 := below_mono b2 b2.size b3
  have hk : Hid (ok3 = decide (u ≤ mxN) ∧ (ok3 = true → k3 = u)) := by
    obtain ⟨p, q⟩ := h3.out
    rw [ho.out, numL_digits] at p
    by_cases hm : u ≤ mxN
    · rw [if_pos hm] at p
      cases ok3 with
      | false => cases p
      | true => exact ⟨by simp [hm], fun _ => by simpa using p.symm⟩
    · rw [if_neg hm] at p
      cases ok3 with
      | false => exact ⟨by simp [hm], fun h => by cases h⟩
      | true => cases p
  clear h3 ho
  have tail : True := trivial
  by_cases hm : u ≤ mxN
  case' pos =>
    obtain ⟨q1, q2⟩ := hk.out
    rw [decide_eq_true hm] at q1
    subst q1
    obtain rfl := q2 rfl
    have t1 : a < 9223372036854775808 := by have := haa.out; unfold mxN at hm; omega
    have t2 : ((k3 : Int) != a) = false := by rw [haa.out]; simp
  case' neg =>
    obtain ⟨q1, q2⟩ := hk.out
    rw [decide_eq_false hm] at q1
    subst q1
    have t1 : ¬ a < 9223372036854775808 := by have := haa.out; unfold mxN at hm; omega
  all_goals
    clear hm hk hdl
    go_wp2_with fail
    refine (number_any s hs _ (ht.later b3) (he.later b3)).mono ?_
    rintro e w4 ⟨k4, ok4, rfl, h4, b4⟩
    have b4 := below_mono b3 b3.size b4
    cases ok4
    · obtain ⟨_, q⟩ := h4.out
      obtain rfl := q rfl
      clear h4 q
      go_wp2_with fail
      go_ret
      exact ⟨rfl, b4⟩
    · have hq := (numL_iff _ k4).1 h4.out.1
      replace hq := Lib.hid hq
      clear h4
      go_wp2_with fail
      refine (digits_any k4 (by have := hq.out.2; unfold mxN at this; omega) _ (ht.later b4)).mono ?_
      rintro e w5 ⟨o5, rfl, h5, b5⟩
      have b5 := below_mono b4 b4.size b5
      have e5 : (o5.toList == s.toList) = true := eqS (l := s.data.toList) (h5.out.trans hq.out.1) rfl
      clear h5
      go_wp2_with fail
      go_ret
      exact ⟨rfl, b5⟩
end Go.Proofs.YtphahhmfijgalaaDoor
