/- 'Number', of the program and of the document. -/
import Derived.Test.YtphahhmfijgalaaDoorWordO
namespace Go.Proofs.YtphahhmfijgalaaDoor
open Go.RowKit

/-- 'Number' hands back a number and a bool -/
def RetNum (l : List UInt8) (w : World) (e : Ending) (w' : World) : Prop := ∃ (k : Nat) (ok : Bool), e = .returned (.tuple #[.int .u64 k, .bool ok]) ∧ Hid (numL l = (if ok then some k else none) ∧ (ok = false → k = 0)) ∧ Below w.heap.size w w'
theorem retNum_no {l : List UInt8} {w w' : World} (h : numL l = none) (hb : Below w.heap.size w w') : RetNum l w (.returned (.tuple #[.int .u64 0, .bool false])) w' := ⟨0, false, rfl, ⟨h, fun _ => rfl⟩, hb⟩
theorem retNum_yes {l : List UInt8} {w w' : World} {k : Nat} {x : Int} (hx : x = k) (h : numL l = some k) (hb : Below w.heap.size w w') : RetNum l w (.returned (.tuple #[.int .u64 x, .bool true])) w' := ⟨k, true, by rw [hx], ⟨h, fun e => by cases e⟩, hb⟩
set_option maxHeartbeats 2000000 in
theorem number_any (s : ByteArray) (hs : s.size ≤ 140737488351232) (w : World) (ht : Tab w) (he : Errs w) :
    Calls Tryd.prog 21 #[.string s] w (RetNum s.data.toList w) := by
  go_enter Tryd.func21, Tryd.ntmps21
  go_wp2_with fail
  refine (parseUint_any s hs w he).mono ?_
  rintro e w1 ⟨x, er, rfl, hor, b1⟩
  rcases hor with ⟨u, hne, hp, rfl, rfl⟩ | ⟨hno, t, p, rfl⟩
  · have hu : Hid (u ≤ mxN) := ((pu_iff _ 0 u (by decide)).1 hp).2
    replace hp := Lib.hid hp
    clear hne
    go_wp2_with fail
    refine (digits_any u (by have := hu.out; unfold mxN at this; omega) _ (ht.later b1)).mono ?_
    rintro e w2 ⟨o, rfl, ho, b2⟩
    have b2 := below_mono b1 b1.size b2
    cases hd : (o.toList == s.toList)
    · have hd' : (o.toList != s.toList) = true := by rw [bne, hd]; rfl
      have hn : Hid (numL s.data.toList = none) := by
        show _ = _
        rw [ByteArray.toList_eq, ByteArray.toList_eq, ho.out] at hd
        rw [numL, hp.out]; simp only [hd]; rfl
      go_wp2_with fail
      go_ret2
      exact retNum_no hn.out b2
    · have hd' : (o.toList != s.toList) = false := by rw [bne, hd]; rfl
      have hn : Hid (numL s.data.toList = some u) := by
        show _ = _
        rw [ByteArray.toList_eq, ByteArray.toList_eq, ho.out] at hd
        rw [numL, hp.out]; simp only [hd]; rfl
      go_wp2_with fail
      go_ret2
      exact retNum_yes rfl hn.out b2
  · have hn : Hid (numL s.data.toList = none) := by
      show _ = _
      cases hn : numL s.data.toList with
      | none => rfl
      | some u =>
        obtain ⟨e, hu⟩ := (numL_iff _ u).1 hn
        have hp := (pu_iff s.data.toList 0 u (by decide)).2 ⟨by rw [← e]; exact dv_digits u, hu⟩
        exact absurd hp (hno u (by rw [← e]; exact digits_ne u))
    clear hno
    go_wp2_with fail
    go_ret2
    exact retNum_no hn.out b1

theorem pow_bd (k n : Nat) (h : n < 10 ^ k) (hk : k ≤ 18) : n ≤ 999999999999999999 := by
  have : 10 ^ k ≤ 10 ^ 18 := Nat.pow_le_pow_right (by omega) hk
  omega
theorem lead_of (s : ByteArray) (h : 0 < s.size) (ho : ((s[0].toNat : Int) == 48) = false ∨ s.size ≤ 1) : lead s.data.toList = true := by
  have hd := drop_cons s 0 h
  rw [List.drop_zero] at hd
  have hl := size_len s
  generalize s.data.toList.drop (0 + 1) = r at hd
  generalize s.data.toList = l at hd hl ⊢
  subst hd
  cases r with
  | nil => rfl
  | cons b r =>
    rcases ho with ho | ho
    · simp only [lead]
      rw [bne_iff_ne]
      intro e
      rw [e] at ho
      exact absurd ho (by decide)
    · rw [hl] at ho; simp at ho
theorem nought_ahead (s : ByteArray) (h : 1 < s.size) (h0 : ((s[0].toNat : Int) == 48) = true) : numL s.data.toList = none := by
  have hd := drop_cons s 0 (by omega)
  rw [List.drop_zero] at hd
  have hl := size_len s
  have hc : s[0] = 48 := byte_ext (eq_of_beq h0)
  rw [hc] at hd
  clear hc h0
  generalize s.data.toList.drop (0 + 1) = r at hd
  generalize s.data.toList = l at hd hl ⊢
  subst hd
  exact numL_nought r (fun e => by rw [e] at hl; rw [hl] at h; simp at h)
theorem isDig_bd (c : UInt8) (h : isDig c = true) : 48 ≤ c.toNat ∧ c.toNat ≤ 57 := by simpa [isDig] using h
theorem dv_round (n k : Nat) (c : UInt8) (h : n < 10 ^ k) (hd : isDig c = true) : n * 10 + (c.toNat - 48) < 10 ^ (k + 1) := by
  have := isDig_bd c hd
  rw [Nat.pow_succ]; omega
set_option maxHeartbeats 4000000 in
theorem refNumber_main (s : ByteArray) (hl : s.size ≤ 19) (hpos : 0 < s.size) (hh0 : ((s[0].toNat : Int) == 48) = false ∨ s.size ≤ 1) (w : World) :
    Calls Tryd.prog 22 #[.string s] w (RetNum s.data.toList w) := by
  have hlead := lead_of s hpos hh0
  have hval := Lib.hid (numL_dv _ hlead)
  clear hlead
  have hin : ∀ z : Int, (z == 48) = false ∨ (z == 48) = true := fun z => by cases (z == 48) <;> simp
  cases h0 : ((s[0].toNat : Int) == 48)
  case' true => have h1 : decide ((1 : Int) < (s.size : Int)) = false := by
                  rcases hh0 with h | h
                  · rw [h] at h0; cases h0
                  · simp; omega
  all_goals
    clear hin hh0
    go_enter Tryd.func22, Tryd.ntmps22
    go_wp2_with fail
    clear h0
    go_loop [4, 5] (fun vn vi => ∃ (k n : Nat) (a : Int), vn = .int .u64 a ∧ vi = .int .i64 k ∧ k ≤ s.size ∧ Hid (a = (n : Int) ∧ n < 10 ^ k ∧ dv 0 s.data.toList = dv n (s.data.toList.drop k))) (fun _ vi => s.size - (intOf vi).toNat)
    case atStart => exact ⟨0, 0, 0, rfl, rfl, by omega, rfl, by decide, rfl⟩
    case round =>
      obtain ⟨k, n, a, rfl, rfl, hk, hh⟩ := hrel
      by_cases hlt : k < s.size
      · obtain ⟨ha, hnk, hdv⟩ := hh.out
        have hb := pow_bd k n hnk (by omega)
        have a0 : 0 ≤ a := by omega
        have a1 : a ≤ 999999999999999999 := by omega
        rw [drop_cons s k hlt, dv] at hdv
        by_cases hd : isDig s[k] = true
        · rw [if_pos hd] at hdv
          have hd2 := isDig_bd _ hd
          have HN : Hid (10 * a + ((s[k].toNat : Int) - 48) % 256 = ((n * 10 + (s[k].toNat - 48) : Nat) : Int) ∧ n * 10 + (s[k].toNat - 48) < 10 ^ (k + 1) ∧ dv 0 s.data.toList = dv (n * 10 + (s[k].toNat - 48)) (s.data.toList.drop (k + 1))) := ⟨by omega, dv_round n k _ hnk hd, hdv⟩
          have t1 : decide ((s[k].toNat : Int) < 48) = false := by simp; omega
          have t2 : decide ((57 : Int) < (s[k].toNat : Int)) = false := by simp; omega
          clear hnk hdv hb ha hd hh hd2
          go_wp2_with fail
          exact ⟨⟨k + 1, _, _, rfl, by go_num, by omega, HN⟩, by simp [intOf]; omega⟩
        · rw [if_neg hd] at hdv
          have hn : Hid (numL s.data.toList = none) := by show _ = _; rw [hval.out, hdv]
          by_cases hlow : s[k].toNat < 48
          · have t1 : decide ((s[k].toNat : Int) < 48) = true := by simp; omega
            clear hnk hdv hb ha hd hh hlow
            go_wp2_with fail
            go_ret2
            exact retNum_no hn.out (Below.refl _ _)
          · have t1 : decide ((s[k].toNat : Int) < 48) = false := by simp; omega
            have t2 : decide ((57 : Int) < (s[k].toNat : Int)) = true := by
              have : ¬ (48 ≤ s[k].toNat ∧ s[k].toNat ≤ 57) := fun h => hd (by simp [isDig, h.1, h.2])
              simp; omega
            clear hnk hdv hb ha hd hh hlow
            go_wp2_with fail
            go_ret2
            exact retNum_no hn.out (Below.refl _ _)
      · obtain rfl : k = s.size := by omega
        obtain ⟨ha, hnk, hdv⟩ := hh.out
        rw [drop_all s (Nat.le_refl _), dv] at hdv
        have hn : Hid (numL s.data.toList = if n ≤ mxN then some n else none) := by show _ = _; rw [hval.out, hdv]
        have a0 : 0 ≤ a := by omega
        by_cases hm : (9223372036854775807 : Int) < a
        · have hn2 : Hid (numL s.data.toList = none) := hn.out.trans (if_neg (by unfold mxN; omega))
          clear hnk hdv ha hh hn
          go_wp2_with fail
          go_ret2
          exact retNum_no hn2.out (Below.refl _ _)
        · have hn2 : Hid (numL s.data.toList = some n) := hn.out.trans (if_pos (by unfold mxN; omega))
          replace ha := Lib.hid ha
          have hm : a ≤ 9223372036854775807 := by omega
          clear hnk hdv hh hn
          go_wp2_with fail
          go_ret2
          exact retNum_yes ha.out hn2.out (Below.refl _ _)
set_option maxHeartbeats 4000000 in
theorem refNumber_any (s : ByteArray) (hs : s.size ≤ 140737488351232) (w : World) :
    Calls Tryd.prog 22 #[.string s] w (RetNum s.data.toList w) := by
  by_cases hpos : 0 < s.size
  · by_cases hl : s.size ≤ 19
    · cases h0 : ((s[0].toNat : Int) == 48)
      · exact refNumber_main s hl hpos (.inl h0) w
      · by_cases h1 : s.size ≤ 1
        · exact refNumber_main s hl hpos (.inr h1) w
        · have hn := Lib.hid (nought_ahead s (by omega) h0)
          go_enter Tryd.func22, Tryd.ntmps22
          go_wp2_with fail
          go_ret2
          exact retNum_no hn.out (Below.refl _ _)
    · have hn := Lib.hid (numL_none_len s.data.toList (by rw [← size_len]; omega))
      go_enter Tryd.func22, Tryd.ntmps22
      go_wp2_with fail
      go_ret2
      exact retNum_no hn.out (Below.refl _ _)
  · have hn : Hid (numL s.data.toList = none) := by show _ = _; rw [List.eq_nil_of_length_eq_zero (l := s.data.toList) (by rw [← size_len]; omega)]; exact numL_nil
    go_enter Tryd.func22, Tryd.ntmps22
    go_wp2_with fail
    go_ret2
    exact retNum_no hn.out (Below.refl _ _)
end Go.Proofs.YtphahhmfijgalaaDoor
