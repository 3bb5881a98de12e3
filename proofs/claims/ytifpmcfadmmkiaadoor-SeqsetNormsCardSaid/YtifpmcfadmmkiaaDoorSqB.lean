/- A range's end; a number, or *: read, written; walked. -/
import Derived.Test.YtifpmcfadmmkiaaDoorSqA
namespace Go.Proofs.YtifpmcfadmmkiaaDoor
open Go.RowKit

/-- a range's end: a number, or * -/
def oneL (l : List UInt8) : Option Nat := if l = [42] then some 0 else match numL l with
  | some k => if 0 < k ∧ k ≤ 4294967295 then some k else none
  | none => none
/-- what 'one' and 'number' hand back -/
def RetOne (l : List UInt8) (w : World) (e : Ending) (w' : World) : Prop := ∃ (k : Nat) (ok : Bool), e = .returned (.tuple #[.int .u64 k, .bool ok]) ∧ Hid (oneL l = if ok then some k else none) ∧ Hid (Below w.heap.size w w')
theorem star_iff (s : ByteArray) : (s.toList == [42]) = decide (s.data.toList = [42]) := by
  rw [ByteArray.toList_eq]
  by_cases h : s.data.toList = [42]
  · rw [h]; rfl
  · rw [decide_eq_false h]; exact beq_eq_false_iff_ne.2 h
theorem one_le {l : List UInt8} {k : Nat} (h : oneL l = some k) : k ≤ 4294967295 := by
  rw [oneL] at h
  split at h
  · cases h; decide
  · split at h
    · split at h
      · cases h; omega
      · cases h
    · cases h
set_option maxHeartbeats 2000000 in
theorem one_any (s : ByteArray) (hs : s.size ≤ 140737488351232) (w : World) (ht : Tab w) (he : Errs w) :
    Calls Tryd.prog 29 #[.string s] w (RetOne s.data.toList w) := by
  have hst := star_iff s
  by_cases h : s.data.toList = [42]
  · rw [decide_eq_true h] at hst
    have hr : Hid (oneL s.data.toList = if true then some 0 else none) := Lib.hid (by rw [oneL, if_pos h]; rfl)
    clear h
    go_enter Tryd.func29, Tryd.ntmps29
    go_wp2_with fail
    go_ret2
    exact ⟨0, true, rfl, hr, Lib.hid (Below.refl _ _)⟩
  · rw [decide_eq_false h] at hst
    have hr : Hid (oneL s.data.toList = match numL s.data.toList with | some k => if 0 < k ∧ k ≤ 4294967295 then some k else none | none => none) := Lib.hid (by rw [oneL, if_neg h])
    have hn := Lib.hid (number_any s hs w ht he)
    clear h ht he
    go_enter Tryd.func29, Tryd.ntmps29
    go_wp2_with fail
    refine hn.out.mono ?_
    rintro e w1 ⟨k, ok, rfl, hk, hb⟩
    replace hb := Lib.hid hb
    cases ok with
    | false =>
      have hf : Hid (oneL s.data.toList = if false then some k else none) := Lib.hid (by rw [hr.out, hk.out.1]; rfl)
      clear hk hr hn
      go_wp2_with fail
      go_ret2
      exact ⟨k, false, rfl, hf, hb⟩
    | true =>
      have hf : Hid (oneL s.data.toList = if 0 < k ∧ k ≤ 4294967295 then some k else none) := Lib.hid (by rw [hr.out, hk.out.1]; rfl)
      clear hk hr hn
      by_cases h0 : 0 < k
      · by_cases h1 : k ≤ 4294967295
        · have t : Hid (oneL s.data.toList = if true then some k else none) := Lib.hid (by rw [hf.out, if_pos ⟨h0, h1⟩]; rfl)
          have d1 : decide ((k : Int) ≤ 4294967295) = true := by simp; omega
          clear hf
          go_wp2_with fail
          go_ret2
          exact ⟨k, true, rfl, t, hb⟩
        · have t : Hid (oneL s.data.toList = if false then some k else none) := Lib.hid (by rw [hf.out, if_neg (by omega)]; rfl)
          have d1 : decide ((k : Int) ≤ 4294967295) = false := by simp; omega
          clear hf
          go_wp2_with fail
          go_ret2
          exact ⟨k, false, rfl, t, hb⟩
      · have t : Hid (oneL s.data.toList = if false then some k else none) := Lib.hid (by rw [hf.out, if_neg (by omega)]; rfl)
        clear hf
        go_wp2_with fail
        go_ret2
        exact ⟨k, false, rfl, t, hb⟩
/-- a number, or *, as a text -/
def toldL (n : Nat) : List UInt8 := if n = 0 then [42] else Lib.decDigits n
set_option maxHeartbeats 1000000 in
theorem told_any (n : Nat) (hn : n < 18446744073709551616) (w : World) (ht : Tab w) : Calls Tryd.prog 21 #[.int .u64 n] w (RetStr (toldL n) w) := by
  by_cases h : n = 0
  · subst h
    go_enter Tryd.func21, Tryd.ntmps21
    go_wp2_with fail
    go_ret
    exact ⟨_, rfl, Lib.hid rfl, Below.refl _ _⟩
  · have hr : Hid (toldL n = Lib.decDigits n) := Lib.hid (if_neg h)
    have q0 : ((n : Int) == 0) = false := beq_eq_false_iff_ne.2 (by omega)
    have hd := Lib.hid (digits_any n hn w ht)
    clear ht
    go_enter Tryd.func21, Tryd.ntmps21
    go_wp2_with fail
    refine hd.out.mono ?_
    rintro e w1 ⟨u, rfl, hu, hb⟩
    replace hb := Lib.hid hb
    go_wp2_with fail
    go_ret
    exact ⟨u, rfl, Lib.hid (by rw [hu.out, hr.out]), hb.out⟩
theorem byte_48 (m : Nat) : (⟨#[48 + UInt8.ofNat m]⟩ : ByteArray).data.toList = [UInt8.ofNat (48 + m)] := by
  show [48 + UInt8.ofNat m] = _
  rw [UInt8.ofNat_add]; rfl
theorem decDigits_step (u : Nat) (h : ¬ u < 10) : Lib.decDigits u = Lib.decDigits (u / 10) ++ [UInt8.ofNat (48 + u % 10)] := by rw [Lib.decDigits, dif_neg h]
set_option maxHeartbeats 1000000 in
theorem refDigits_any (u : Nat) (hu64 : u < 18446744073709551616) (w : World) :
    Calls Tryd.prog 37 #[.int .u64 u] w (RetStr (Lib.decDigits u) w) := by
  have hlen : (Lib.decDigits u).length ≤ 20 := by rw [Lib.decDigits_length]; exact Lib.nDigits_le20 u hu64
  have kb := run_conv_one (P := Tryd.prog) 59 9 5 Tryd.underlying59 Tryd.underlying5 Tryd.underlying9
  have h64 := Lib.hid hu64
  clear hu64
  go_enter Tryd.func37, Tryd.ntmps37
  go_wp2_with fail
  go_loopw [0, 3] (fun a v wr => ∃ (m : Nat) (o : ByteArray), a = .int .u64 m ∧ v = .string o ∧ o.size ≤ 20 ∧ Hid (m < 18446744073709551616) ∧ Hid (Lib.decDigits m ++ o.data.toList = Lib.decDigits u) ∧ Below w.heap.size w wr) (fun a _ _ => (intOf a).toNat)
  case atStart => exact ⟨u, ⟨#[]⟩, rfl, rfl, Nat.zero_le _, h64, List.append_nil _, Below.refl _ _⟩
  case round =>
    obtain ⟨m, o, rfl, rfl, ho, hm, hp, hb⟩ := hrel
    by_cases hlt : m < 10
    · go_wp2_with fail
      go_ret
      refine ⟨_, rfl, ?_, hb.alloc hb.size _⟩
      show _ = _
      rw [toList_app, ← hp.out, byte_48, Lib.decDigits_one hlt]
    · have hwr : IntKind.u64.wrap ((m : Int) / 10) = ((m / 10 : Nat) : Int) := by
        have := hm.out
        rw [IntKind.wrap_u64]; omega
      have hl1 : Lib.nDigits m + o.size ≤ 20 := by
        have := congrArg List.length hp.out
        rw [List.length_append, Lib.decDigits_length, ← size_len] at this
        omega
      have hl2 := Lib.nDigits_pos m
      have hp1 : Hid (Lib.decDigits (m / 10) ++ ((⟨#[48 + UInt8.ofNat (m % 10)]⟩ : ByteArray) ++ o).data.toList = Lib.decDigits u) := by
        show _ = _
        rw [toList_app, ← hp.out, decDigits_step m hlt, byte_48, List.append_assoc]
      go_wp2_with fail
      exact ⟨⟨m / 10, _, rfl, rfl, by rw [ByteArray.size_append]; show 1 + o.size ≤ 20; omega, by have := hm.out; show _ < _; omega, hp1, hb.alloc hb.size _⟩, by simp [intOf]; omega⟩

set_option maxHeartbeats 1000000 in
theorem refTold_any (n : Nat) (hn : n < 18446744073709551616) (w : World) : Calls Tryd.prog 23 #[.int .u64 n] w (RetStr (toldL n) w) := by
  by_cases h : n = 0
  · subst h
    go_enter Tryd.func23, Tryd.ntmps23
    go_wp2_with fail
    go_ret
    exact ⟨_, rfl, Lib.hid rfl, Below.refl _ _⟩
  · have hr : Hid (toldL n = Lib.decDigits n) := Lib.hid (if_neg h)
    have q0 : ((n : Int) == 0) = false := beq_eq_false_iff_ne.2 (by omega)
    have hd := Lib.hid (refDigits_any n hn w)
    go_enter Tryd.func23, Tryd.ntmps23
    go_wp2_with fail
    refine hd.out.mono ?_
    rintro e w1 ⟨u, rfl, hu, hb⟩
    replace hb := Lib.hid hb
    go_wp2_with fail
    go_ret
    exact ⟨u, rfl, Lib.hid (by rw [hu.out, hr.out]), hb.out⟩
end Go.Proofs.YtifpmcfadmmkiaaDoor
