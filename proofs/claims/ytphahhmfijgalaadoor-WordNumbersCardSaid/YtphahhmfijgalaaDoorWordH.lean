/- 'Box', of the program and of the document: what a mailbox is called; new memory alone is written. -/
import Derived.Test.YtphahhmfijgalaaDoorWordG
namespace Go.Proofs.YtphahhmfijgalaaDoor
open Go.RowKit

def inboxL : List UInt8 := [73, 78, 66, 79, 88]
def boxEnds (l : List UInt8) : Bool := !((l.headD 0).toNat == (32 : Int)) && !((l.getLastD 0).toNat == (32 : Int))
def boxOk (l : List UInt8) : Bool := allS boxB l && (decide (l.length ≤ 64) && boxEnds l)
def boxL (l : List UInt8) : List UInt8 := if boxOk l then (if upL l == inboxL then inboxL else l) else []
def RetBox (l : List UInt8) (w : World) (e : Ending) (w' : World) : Prop := ∃ u : ByteArray, e = .returned (.tuple #[.string u, .bool (boxOk l)]) ∧ Hid (u.data.toList = boxL l) ∧ Below w.heap.size w w'

theorem head_at (s : ByteArray) (h : 0 < s.size) : s.data.toList.headD 0 = s[0] := by
  have := drop_cons s 0 h
  rw [List.drop_zero] at this
  generalize s.data.toList.drop (0 + 1) = r at this
  rw [this]; rfl
theorem last_at (s : ByteArray) (h : 0 < s.size) : s.data.toList.getLastD 0 = s[s.size - 1]'(by omega) := by
  have h1 := take_snoc s (s.size - 1) (by omega)
  rw [show s.size - 1 + 1 = s.size from by omega, take_all] at h1
  generalize s.data.toList.take (s.size - 1) = r at h1
  rw [h1]; simp
theorem box_no {l : List UInt8} (h : boxOk l = false) : boxL l = [] := by rw [boxL, h]; rfl
theorem ret_box {l : List UInt8} {s : ByteArray} {b : Bool} (h : b = boxOk l) : Ending.returned (.tuple #[.string s, .bool b]) = .returned (.tuple #[.string s, .bool (boxOk l)]) := by rw [h]
theorem allS_pos {p : Int → Bool} {s : ByteArray} (h : allS p s.data.toList = true) : 0 < s.size := by
  rcases Nat.eq_zero_or_pos s.size with h' | h'
  · rw [size_len] at h'; rw [List.eq_nil_of_length_eq_zero h'] at h; simp [allS] at h
  · exact h'
theorem box_bad_len (s : ByteArray) (h : ¬ s.size ≤ 64) : boxOk s.data.toList = false := by rw [boxOk, ← size_len, decide_eq_false h]; simp
theorem box_bad_0 (s : ByteArray) (h : 0 < s.size) (h0 : ((s[0].toNat : Int) == 32) = true) : boxOk s.data.toList = false := by rw [boxOk, boxEnds, head_at s h, h0]; simp
theorem box_bad_1 (s : ByteArray) (h : 0 < s.size) (h1 : (((s[s.size - 1]'(by omega)).toNat : Int) == 32) = true) : boxOk s.data.toList = false := by rw [boxOk, boxEnds, last_at s h, h1]; simp
theorem box_good (s : ByteArray) (h : 0 < s.size) (ha : allS boxB s.data.toList = true) (hsz : s.size ≤ 64) (h0 : ((s[0].toNat : Int) == 32) = false) (h1 : (((s[s.size - 1]'(by omega)).toNat : Int) == 32) = false) : boxOk s.data.toList = true := by
  rw [boxOk, boxEnds, head_at s h, last_at s h, h0, h1, ha, ← size_len, decide_eq_true hsz]; rfl
theorem box_inbox {s u : ByteArray} (hk : boxOk s.data.toList = true) (hu : u.data.toList = upL s.data.toList) (hn : (u.toList == [73, 78, 66, 79, 88]) = true) : (⟨#[73, 78, 66, 79, 88]⟩ : ByteArray).data.toList = boxL s.data.toList := by
  rw [ByteArray.toList_eq, hu] at hn
  rw [boxL, hk, if_pos rfl, if_pos (show (upL s.data.toList == inboxL) = true from hn)]; rfl
theorem box_same {s u : ByteArray} (hk : boxOk s.data.toList = true) (hu : u.data.toList = upL s.data.toList) (hn : (u.toList == [73, 78, 66, 79, 88]) = false) : s.data.toList = boxL s.data.toList := by
  rw [ByteArray.toList_eq, hu] at hn
  rw [boxL, hk, if_pos rfl, if_neg (by rw [inboxL, hn]; simp)]
set_option maxHeartbeats 2000000 in
theorem box_any (s : ByteArray) (hs : s.size ≤ maxLen) (w : World) :
    Calls Tryd.prog 16 #[.string s] w (RetBox s.data.toList w) := by
  unfold maxLen at hs
  cases ha : allS boxB s.data.toList
  case' false => have hf : Hid (boxOk s.data.toList = false) := by show _ = _; rw [boxOk, ha]; rfl
  case' true => have hpos := allS_pos ha
  case' true => by_cases hsz : s.size ≤ 64
  case' neg => have hf := Lib.hid (box_bad_len s hsz)
  case' pos => cases h0 : ((s[0].toNat : Int) == 32)
  case' pos.true => have hf := Lib.hid (box_bad_0 s hpos h0)
  case' pos.false => cases h1 : (((s[s.size - 1]'(by omega)).toNat : Int) == 32)
  case' pos.false.true => have hf := Lib.hid (box_bad_1 s hpos h1)
  case' pos.false.false =>
    have hg := Lib.hid (box_good s hpos ha hsz h0 h1)
    go_enter Tryd.func16, Tryd.ntmps16
    go_wp2_with fail
    refine (all_any _ _ asks_box s (by unfold maxLen; omega) w).mono ?_
    rintro e w' ⟨rfl, rfl⟩
    rw [ha]
    go_wp2_with fail
    refine (upperS_any s (by unfold maxLen; omega) w).mono ?_
    rintro e w1 ⟨u, rfl, hu, hbw⟩
    cases hn : (u.toList == [73, 78, 66, 79, 88])
    · go_wp2_with fail
      go_ret2
      exact ⟨_, ret_box hg.out.symm, box_same hg.out hu.out hn, hbw⟩
    · go_wp2_with fail
      go_ret2
      exact ⟨_, ret_box hg.out.symm, box_inbox hg.out hu.out hn, hbw⟩
  all_goals
    go_enter Tryd.func16, Tryd.ntmps16
    go_wp2_with fail
    refine (all_any _ _ asks_box s (by unfold maxLen; omega) w).mono ?_
    rintro e w' ⟨rfl, rfl⟩
    rw [ha]
    go_wp2_with fail
    go_ret2
    exact ⟨⟨#[]⟩, ret_box hf.out.symm, (box_no hf.out).symm, Below.refl _ _⟩

theorem boxB_low {c : Int} (h : c < 32) : boxB c = false := by rw [boxB, decide_eq_false (by omega)]; rfl
theorem boxB_high {c : Int} (h : 126 < c) : boxB c = false := by rw [boxB, decide_eq_false (p := c < 127) (by omega)]; simp
theorem boxB_mid {c : Int} (h1 : 32 ≤ c) (h2 : c ≤ 126) : boxB c = !inL c [37, 42, 34, 92] := by rw [boxB, decide_eq_true h1, decide_eq_true (p := c < 127) (by omega)]; rfl
theorem allS_false {p : Int → Bool} (s : ByteArray) (k : Nat) (h : k < s.size) (hp : p s[k].toNat = false) : allS p s.data.toList = false := by rw [allS, allB_false p s k h hp]; rfl
theorem allS_true {p : Int → Bool} (s : ByteArray) (h : 0 < s.size) (hp : allB p s.data.toList = true) : allS p s.data.toList = true := by
  rw [allS, hp, ← size_pos_bool, decide_eq_true h]; rfl
theorem boxB_bad {c : Int} (h : (c < 32 ∨ 126 < c) ∨ inL c [37, 42, 34, 92] = true) : boxB c = false := by
  rcases h with (h | h) | h
  · exact boxB_low h
  · exact boxB_high h
  · rw [boxB, h]; simp
theorem box_bad_all (s : ByteArray) (h : allS boxB s.data.toList = false) : boxOk s.data.toList = false := by rw [boxOk, h]; rfl
set_option maxHeartbeats 2000000 in
theorem refBox_any (s : ByteArray) (hs : s.size ≤ maxLen) (w : World) :
    Calls Tryd.prog 17 #[.string s] w (RetBox s.data.toList w) := by
  unfold maxLen at hs
  by_cases hpos : 0 < s.size
  · by_cases hsz : s.size ≤ 64
    · cases h0 : ((s[0].toNat : Int) == 32)
      case true =>
        have hf := Lib.hid (box_bad_0 s hpos h0)
        go_enter Tryd.func17, Tryd.ntmps17
        go_wp2_with fail
        go_ret2
        exact ⟨⟨#[]⟩, ret_box hf.out.symm, (box_no hf.out).symm, Below.refl _ _⟩
      cases h1 : (((s[s.size - 1]'(by omega)).toNat : Int) == 32)
      case true =>
        have hf := Lib.hid (box_bad_1 s hpos h1)
        go_enter Tryd.func17, Tryd.ntmps17
        go_wp2_with fail
        go_ret2
        exact ⟨⟨#[]⟩, ret_box hf.out.symm, (box_no hf.out).symm, Below.refl _ _⟩
      have hg : Hid (allS boxB s.data.toList = true → boxOk s.data.toList = true) := fun ha => box_good s hpos ha hsz h0 h1
      go_enter Tryd.func17, Tryd.ntmps17
      go_wp2_with fail
      clear h0 h1
      go_loop [4] (fun i => ∃ k : Nat, k ≤ s.size ∧ i = .int .i64 k ∧ Hid (allB boxB (s.data.toList.take k) = true)) (fun i => s.size - (intOf i).toNat)
      case atStart => exact ⟨0, Nat.zero_le _, rfl, rfl⟩
      case round =>
        obtain ⟨k, hk, rfl, hp⟩ := hrel
        by_cases hlt : k < s.size
        · go_wp2_with (go_at_call 34; refine (in_any _ _ (by decide) _).mono ?_; rintro e w' ⟨rfl, rfl⟩)
          case' roundEnd =>
            have hh : (32 ≤ (s[k].toNat : Int) ∧ (s[k].toNat : Int) ≤ 126) ∧ inL s[k].toNat [37, 42, 34, 92] = false := by assumption
            exact ⟨⟨k + 1, by omega, by go_num, quot_step s k hlt hp (by rw [boxB_mid hh.1.1 hh.1.2, hh.2]; rfl)⟩, by simp [intOf]; omega⟩
          · have hh : ((s[k].toNat : Int) < 32 ∨ 126 < (s[k].toNat : Int)) ∨ inL s[k].toNat [37, 42, 34, 92] = true := by assumption
            have hf := Lib.hid (box_bad_all s (allS_false s k hlt (boxB_bad hh)))
            go_ret2
            exact ⟨⟨#[]⟩, ret_box hf.out.symm, (box_no hf.out).symm, Below.refl _ _⟩
          · have hh : 126 < (s[k].toNat : Int) := by assumption
            have hf := Lib.hid (box_bad_all s (allS_false s k hlt (boxB_high hh)))
            go_ret2
            exact ⟨⟨#[]⟩, ret_box hf.out.symm, (box_no hf.out).symm, Below.refl _ _⟩
          · have hh : (s[k].toNat : Int) < 32 := by assumption
            have hf := Lib.hid (box_bad_all s (allS_false s k hlt (boxB_low hh)))
            go_ret2
            exact ⟨⟨#[]⟩, ret_box hf.out.symm, (box_no hf.out).symm, Below.refl _ _⟩
        · obtain rfl : k = s.size := by omega
          rw [take_all] at hp
          have hk2 := Lib.hid (hg.out (allS_true s hpos hp.out))
          go_wp2_with fail
          refine (refUpperS_any s (by unfold maxLen; omega) w).mono ?_
          rintro e w1 ⟨u, rfl, hu, hbw⟩
          cases hn : (u.toList == [73, 78, 66, 79, 88])
          · go_wp2_with fail
            go_ret2
            exact ⟨_, ret_box hk2.out.symm, box_same hk2.out hu.out hn, hbw⟩
          · go_wp2_with fail
            go_ret2
            exact ⟨_, ret_box hk2.out.symm, box_inbox hk2.out hu.out hn, hbw⟩
    · have hf := Lib.hid (box_bad_len s hsz)
      go_enter Tryd.func17, Tryd.ntmps17
      go_wp2_with fail
      go_ret2
      exact ⟨⟨#[]⟩, ret_box hf.out.symm, (box_no hf.out).symm, Below.refl _ _⟩
  · have hf : Hid (boxOk s.data.toList = false) := box_bad_all s (by rw [List.eq_nil_of_length_eq_zero (l := s.data.toList) (by rw [← size_len]; omega)]; rfl)
    go_enter Tryd.func17, Tryd.ntmps17
    go_wp2_with fail
    go_ret2
    exact ⟨⟨#[]⟩, ret_box hf.out.symm, (box_no hf.out).symm, Below.refl _ _⟩
end Go.Proofs.YtphahhmfijgalaaDoor
