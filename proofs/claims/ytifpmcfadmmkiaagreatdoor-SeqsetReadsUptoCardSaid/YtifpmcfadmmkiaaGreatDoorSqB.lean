/- A range's end; a number, or *: read, written; walked. -/
import Derived.Test.YtifpmcfadmmkiaaGreatDoorSqA
namespace Go.Proofs.YtifpmcfadmmkiaaGreatDoor
open Go.RowKit

/-- a range's end: a number, or * -/
def oneL (l : List UInt8) : Option Nat := if l = [42] then some 0 else match numL l with
  | some k => if 0 < k ∧ k ≤ 4294967295 then some k else none
  | none => none
/-- what 'one' and 'number' hand back -/
def RetOne (l : List UInt8) (w : World) (e : Ending) (w' : World) : Prop := ∃ (k : Nat) (ok : Bool), e = .returned (.tuple #[.int .u64 k, .bool ok]) ∧ Hid (oneL l = if ok then some k else none) ∧ Hid (Below w.heap.size w w')
theorem star_iff (s : ByteArray) : (s.toList == [42]) = decide (s.data.toList = [42]) := by
  rw [ByteArray.toList_eq]
  by_cases h : s.data.toList = [42]
  · rw [h]; rfl
  · rw [decide_eq_false h]; exact beq_eq_false_iff_ne.2 h
theorem one_le {l : List UInt8} {k : Nat} (h : oneL l = some k) : k ≤ 4294967295 := by
  rw [oneL] at h
  split at h
  · cases h; decide
  · split at h
    · split at h
      · cases h; omega
      · cases h
    · cases h
set_option maxHeartbeats 2000000 in
theorem one_any (s : ByteArray) (hs : s.size ≤ 140737488351232) (w : World) (ht : Tab w) (he : Errs w) :
    Calls Tryz.prog 10 #[.string s] w (RetOne s.data.toList w) := by
  have hst := star_iff s
  by_cases h : s.data.toList = [42]
  · rw [decide_eq_true h] at hst
    have hr : Hid (oneL s.data.toList = if true then some 0 else none) := Lib.hid (by rw [oneL, if_pos h]; rfl)
    clear h
    go_enter Tryz.func10, Tryz.ntmps10
    go_wp2_with fail
    go_ret2
    exact ⟨0, true, rfl, hr, Lib.hid (Below.refl _ _)⟩
  · rw [decide_eq_false h] at hst
    have hr : Hid (oneL s.data.toList = match numL s.data.toList with | some k => if 0 < k ∧ k ≤ 4294967295 then some k else none | none => none) := Lib.hid (by rw [oneL, if_neg h])
    have hn := Lib.hid (number_any s hs w ht he)
    clear h ht he
    go_enter Tryz.func10, Tryz.ntmps10
    go_wp2_with fail
    refine hn.out.mono ?_
    rintro e w1 ⟨k, ok, rfl, hk, hb⟩
    replace hb := Lib.hid hb
    cases ok with
    | false =>
      have hf : Hid (oneL s.data.toList = if false then some k else none) := Lib.hid (by rw [hr.out, hk.out.1]; rfl)
      clear hk hr hn
      go_wp2_with fail
      go_ret2
      exact ⟨k, false, rfl, hf, hb⟩
    | true =>
      have hf : Hid (oneL s.data.toList = if 0 < k ∧ k ≤ 4294967295 then some k else none) := Lib.hid (by rw [hr.out, hk.out.1]; rfl)
      clear hk hr hn
      by_cases h0 : 0 < k
      · by_cases h1 : k ≤ 4294967295
        · have t : Hid (oneL s.data.toList = if true then some k else none) := Lib.hid (by rw [hf.out, if_pos ⟨h0, h1⟩]; rfl)
          have d1 : decide ((k : Int) ≤ 4294967295) = true := by simp; omega
          clear hf
          go_wp2_with fail
          go_ret2
          exact ⟨k, true, rfl, t, hb⟩
        · have t : Hid (oneL s.data.toList = if false then some k else none) := Lib.hid (by rw [hf.out, if_neg (by omega)]; rfl)
          have d1 : decide ((k : Int) ≤ 4294967295) = false := by simp; omega
          clear hf
          go_wp2_with fail
          go_ret2
          exact ⟨k, false, rfl, t, hb⟩
      · have t : Hid (oneL s.data.toList = if false then some k else none) := Lib.hid (by rw [hf.out, if_neg (by omega)]; rfl)
        clear hf
        go_wp2_with fail
        go_ret2
        exact ⟨k, false, rfl, t, hb⟩
set_option maxHeartbeats 2000000 in
theorem refOne_any (s : ByteArray) (hs : s.size ≤ 140737488351232) (w : World) :
    Calls Tryz.prog 12 #[.string s] w (RetOne s.data.toList w) := by
  have hst := star_iff s
  by_cases h : s.data.toList = [42]
  · rw [decide_eq_true h] at hst
    have hr : Hid (oneL s.data.toList = if true then some 0 else none) := Lib.hid (by rw [oneL, if_pos h]; rfl)
    clear h
    go_enter Tryz.func12, Tryz.ntmps12
    go_wp2_with fail
    go_ret2
    exact ⟨0, true, rfl, hr, Lib.hid (Below.refl _ _)⟩
  · rw [decide_eq_false h] at hst
    have hr : Hid (oneL s.data.toList = match numL s.data.toList with | some k => if 0 < k ∧ k ≤ 4294967295 then some k else none | none => none) := Lib.hid (by rw [oneL, if_neg h])
    have hn := Lib.hid (refNumber_any s hs w)
    clear h
    go_enter Tryz.func12, Tryz.ntmps12
    go_wp2_with fail
    refine hn.out.mono ?_
    rintro e w1 ⟨k, ok, rfl, hk, hb⟩
    replace hb := Lib.hid hb
    cases ok with
    | false =>
      have hf : Hid (oneL s.data.toList = if false then some 0 else none) := Lib.hid (by rw [hr.out, hk.out.1]; rfl)
      clear hk hr hn
      go_wp2_with fail
      go_ret2
      exact ⟨0, false, rfl, hf, hb⟩
    | true =>
      have hf : Hid (oneL s.data.toList = if 0 < k ∧ k ≤ 4294967295 then some k else none) := Lib.hid (by rw [hr.out, hk.out.1]; rfl)
      clear hk hr hn
      by_cases h0 : 0 < k
      · have q0 : ((k : Int) == 0) = false := beq_eq_false_iff_ne.2 (by omega)
        by_cases h1 : k ≤ 4294967295
        · have t : Hid (oneL s.data.toList = if true then some k else none) := Lib.hid (by rw [hf.out, if_pos ⟨h0, h1⟩]; rfl)
          clear hf
          go_wp2_with fail
          go_ret2
          exact ⟨k, true, rfl, t, hb⟩
        · have t : Hid (oneL s.data.toList = if false then some 0 else none) := Lib.hid (by rw [hf.out, if_neg (by omega)]; rfl)
          clear hf
          go_wp2_with fail
          go_ret2
          exact ⟨0, false, rfl, t, hb⟩
      · have t : Hid (oneL s.data.toList = if false then some 0 else none) := Lib.hid (by rw [hf.out, if_neg (by omega)]; rfl)
        obtain rfl : k = 0 := by omega
        clear hf h0
        go_wp2_with fail
        go_ret2
        exact ⟨0, false, rfl, t, hb⟩
/-- a number, or *, as a text -/
def toldL (n : Nat) : List UInt8 := if n = 0 then [42] else Lib.decDigits n
set_option maxHeartbeats 1000000 in
theorem told_any (n : Nat) (hn : n < 18446744073709551616) (w : World) (ht : Tab w) : Calls Tryz.prog 20 #[.int .u64 n] w (RetStr (toldL n) w) := by
  by_cases h : n = 0
  · subst h
    go_enter Tryz.func20, Tryz.ntmps20
    go_wp2_with fail
    go_ret
    exact ⟨_, rfl, Lib.hid rfl, Below.refl _ _⟩
  · have hr : Hid (toldL n = Lib.decDigits n) := Lib.hid (if_neg h)
    have q0 : ((n : Int) == 0) = false := beq_eq_false_iff_ne.2 (by omega)
    have hd := Lib.hid (digits_any n hn w ht)
    clear ht
    go_enter Tryz.func20, Tryz.ntmps20
    go_wp2_with fail
    refine hd.out.mono ?_
    rintro e w1 ⟨u, rfl, hu, hb⟩
    replace hb := Lib.hid hb
    go_wp2_with fail
    go_ret
    exact ⟨u, rfl, Lib.hid (by rw [hu.out, hr.out]), hb.out⟩
theorem byte_48 (m : Nat) : (⟨#[48 + UInt8.ofNat m]⟩ : ByteArray).data.toList = [UInt8.ofNat (48 + m)] := by
  show [48 + UInt8.ofNat m] = _
  rw [UInt8.ofNat_add]; rfl
theorem decDigits_step (u : Nat) (h : ¬ u < 10) : Lib.decDigits u = Lib.decDigits (u / 10) ++ [UInt8.ofNat (48 + u % 10)] := by rw [Lib.decDigits, dif_neg h]
end Go.Proofs.YtifpmcfadmmkiaaGreatDoor
