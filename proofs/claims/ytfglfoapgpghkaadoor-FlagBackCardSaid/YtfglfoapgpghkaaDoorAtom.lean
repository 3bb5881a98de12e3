/- Atoms: the loops over a text that ask a byte predicate; the world is as it was. -/
import Derived.Test.YtfglfoapgpghkaaDoorRows
import Derived.Test.YtfglfoapgpghkaaDoorShelf
import Derived.Test.YtfglfoapgpghkaaDoorKit
namespace Go.Proofs.YtfglfoapgpghkaaDoor
open Go.RowKit

def quot (c : Int) : Bool := decide (0 < c) && decide (c < 128) && (c != 10 && c != 13)
set_option maxHeartbeats 400000 in
set_option maxHeartbeats 400000 in
def allB (p : Int → Bool) (l : List UInt8) : Bool := l.all fun c => p c.toNat
theorem allB_snoc (p : Int → Bool) (l : List UInt8) (c : UInt8) : allB p (l ++ [c]) = (allB p l && p c.toNat) := by
  simp [allB]
theorem allB_false (p : Int → Bool) (s : ByteArray) (k : Nat) (h : k < s.size) (hp : p s[k].toNat = false) : allB p s.data.toList = false := by
  rw [← List.take_append_drop (k + 1) s.data.toList, take_snoc s k h]
  simp [allB, hp]
/-- 'all' says: at least one byte, and p of each. -/
def allS (p : Int → Bool) (l : List UInt8) : Bool := allB p l && !l.isEmpty

/-- f asks p of a byte. -/
structure Asks (P : Program) (f : FuncId) (p : Int → Bool) : Prop where
  enter : ∀ args w, (callFunc f args).run P w = .ok (.enter f args) w
  says : ∀ (c : Int) (w : World), 0 ≤ c → c < 256 → Calls P f #[.int .u8 c] w fun e w' => e = .returned (.bool (p c)) ∧ w = w'

set_option maxHeartbeats 400000 in
theorem all_any (f : FuncId) (p : Int → Bool) (H : Asks Tryd.prog f p) (s : ByteArray) (hs : s.size ≤ maxLen) (w : World) :
    Calls Tryd.prog 44 #[.string s, .func (.func f) #[] #[]] w fun e w' => e = .returned (.bool (allS p s.data.toList)) ∧ w = w' := by
  unfold maxLen at hs
  have hcf := H.enter
  go_enter Tryd.func44, Tryd.ntmps44
  go_wp2_with fail
  go_loop [8] (fun i => ∃ k : Nat, k ≤ s.size ∧ i = .int .i64 k ∧ Hid (allB p (s.data.toList.take k) = true)) (fun i => s.size - (intOf i).toNat)
  case atStart => exact ⟨0, Nat.zero_le _, rfl, rfl⟩
  case round =>
    obtain ⟨k, hk, rfl, hp⟩ := hrel
    by_cases hlt : k < s.size
    · have hsn : Hid (allB p (s.data.toList.take (k+1)) = p s[k].toNat) := by
        show _ = _
        rw [take_snoc s k hlt, allB_snoc, hp.out]; simp
      go_wp2_with fail
      refine (H.says _ _ (byte_nn _) (byte_lt _)).mono ?_
      rintro e w' ⟨rfl, rfl⟩
      cases hc : p ↑s[k].toNat
      · go_wp2_with fail
        go_ret
        exact ⟨ret_bool (by simp [allS, allB_false p s k hlt hc]), rfl⟩
      · go_wp2_with fail
        refine ⟨⟨k + 1, by omega, by go_num, hsn.out.trans hc⟩, by simp [intOf]; omega⟩
    · obtain rfl : k = s.size := by omega
      go_wp2_with fail
      go_ret
      rw [take_all] at hp
      exact ⟨ret_bool (by have := hp.out; simp [allS, this, ByteArray.toList_eq]), rfl⟩

def inL (c : Int) (l : List UInt8) : Bool := l.any fun d => (d.toNat : Int) == c
theorem inL_snoc (c : Int) (l : List UInt8) (d : UInt8) : inL c (l ++ [d]) = (inL c l || ((d.toNat : Int) == c)) := by simp [inL]
theorem inL_true (c : Int) (s : ByteArray) (k : Nat) (h : k < s.size) (hp : ((s[k].toNat : Int) == c) = true) : inL c s.data.toList = true := by
  rw [← List.take_append_drop (k + 1) s.data.toList, take_snoc s k h]
  simp only [inL, List.any_append, List.any_cons, hp]; simp
set_option maxHeartbeats 400000 in
theorem in_any (c : Int) (s : ByteArray) (hs : s.size ≤ maxLen) (w : World) :
    Calls Tryd.prog 76 #[.int .u8 c, .string s] w fun e w' => e = .returned (.bool (inL c s.data.toList)) ∧ w = w' := by
  unfold maxLen at hs
  go_enter Tryd.func76, Tryd.ntmps76
  go_wp2_with fail
  go_loop [5] (fun i => ∃ k : Nat, k ≤ s.size ∧ i = .int .i64 k ∧ Hid (inL c (s.data.toList.take k) = false)) (fun i => s.size - (intOf i).toNat)
  case atStart => exact ⟨0, Nat.zero_le _, rfl, rfl⟩
  case round =>
    obtain ⟨k, hk, rfl, hp⟩ := hrel
    by_cases hlt : k < s.size
    · have hsn : Hid (inL c (s.data.toList.take (k+1)) = ((s[k].toNat : Int) == c)) := by
        show _ = _
        rw [take_snoc s k hlt, inL_snoc, hp.out]; simp
      cases hc : ((s[k].toNat : Int) == c)
      · go_wp2_with fail
        refine ⟨⟨k + 1, by omega, by go_num, hsn.out.trans hc⟩, by simp [intOf]; omega⟩
      · go_wp2_with fail
        go_ret
        exact ⟨ret_bool (inL_true c s k hlt hc).symm, rfl⟩
    · obtain rfl : k = s.size := by omega
      go_wp2_with fail
      go_ret
      rw [take_all] at hp
      exact ⟨ret_bool hp.out.symm, rfl⟩

/-! the byte predicates of atoms and of mailboxes' names -/
theorem indexByte_neg (l : List UInt8) (c : UInt8) : decide (Lib.indexByte l c < 0) = !inL c.toNat l := by
  induction l with
  | nil => simp [Lib.indexByte, inL]
  | cons b l ih =>
    have hge := Lib.indexByte_ge l c
    have hb : ((b.toNat : Int) == (c.toNat : Int)) = (b == c) := by
      rw [Bool.eq_iff_iff]; simp only [beq_iff_eq]
      exact ⟨fun h => byte_ext h, fun h => by rw [h]⟩
    simp only [Lib.indexByte, inL, List.any_cons, hb] at ih ⊢
    by_cases h : b = c
    case neg =>
      have hf : (b == c) = false := by simpa using h
      simp only [hf, Bool.false_eq_true, if_false, Bool.false_or]
      by_cases h2 : Lib.indexByte l c = -1
      · simp [h2] at ih ⊢; exact ih
      · have h1 : decide (Lib.indexByte l c < 0) = false := by simp; omega
        have h3 : decide (Lib.indexByte l c + 1 < 0) = false := by simp; omega
        rw [← ih, h1, if_neg (by simpa using h2), h3]
    case pos => simp [h]
theorem toUInt8_of (c : Int) (h0 : 0 ≤ c) (h1 : c < 256) : ((c.toNat.toUInt8.toNat : Nat) : Int) = c := by
  have : c.toNat.toUInt8.toNat = c.toNat % 256 := by simp
  rw [this]; omega
/-- the same test of an int that is a byte -/
theorem indexByte_negI (l : List UInt8) (c : Int) (h0 : 0 ≤ c) (h1 : c < 256) : decide (Lib.indexByte l c.toNat.toUInt8 < 0) = !inL c l := by
  rw [indexByte_neg, toUInt8_of c h0 h1]
def atomB (c : Int) : Bool := decide (32 < c) && (decide (c < 127) && !inL c [40, 41, 123, 37, 42, 34, 92, 93])
def boxB (c : Int) : Bool := decide (32 ≤ c) && (decide (c < 127) && !inL c [37, 42, 34, 92])
set_option maxHeartbeats 400000 in
theorem atomByte_any (c : Int) (w : World) :
    Calls Tryd.prog 56 #[.int .u8 c] w fun e w' => e = .returned (.bool (atomB c)) ∧ w = w' := by
  go_enter Tryd.func56, Tryd.ntmps56
  go_wp2_with (go_at_call 76; refine (in_any _ _ (by decide) _).mono ?_; rintro e w' ⟨rfl, rfl⟩)
  all_goals (go_ret; exact ⟨ret_bool (by unfold atomB; generalize inL c _ = b; cases b <;> simp <;> omega), rfl⟩)
theorem indexByte_any (l : ByteArray) (c : Int) (h0 : 0 ≤ c) (h1 : c < 256) (w : World) :
    Calls Tryd.prog 12 #[.string l, .int .u8 c] w fun e w' => ∃ r : Int, e = .returned (.int .i64 r) ∧ Hid (decide (r < 0) = !inL c l.data.toList) ∧ w = w' :=
  (Tryd.strings_IndexByte l c w).mono fun _ _ ⟨he, hw⟩ => ⟨_, he, indexByte_negI _ c h0 h1, hw.symm⟩
set_option maxHeartbeats 400000 in
theorem atom1_any (c : Int) (w : World) (h0 : 0 ≤ c) (h1 : c < 256) :
    Calls Tryd.prog 45 #[.int .u8 c] w fun e w' => e = .returned (.bool (atomB c)) ∧ w = w' := by
  go_enter Tryd.func45, Tryd.ntmps45
  go_wp2_with (go_at_call 12; refine (indexByte_any _ _ (by omega) (by omega) _).mono ?_; rintro e w' ⟨r, rfl, hr, rfl⟩)
  all_goals (go_ret; first | (have hr := hr.out; exact ⟨ret_bool (by rw [hr]; unfold atomB; generalize inL c _ = b; cases b <;> simp <;> omega), rfl⟩) | exact ⟨ret_bool (by unfold atomB; generalize inL c _ = b; cases b <;> simp <;> omega), rfl⟩)
set_option maxHeartbeats 400000 in
theorem asks_atom : Asks Tryd.prog 45 atomB := ⟨fun _ _ => by go_simp, fun c w h0 h1 => atom1_any c w h0 h1⟩
set_option maxHeartbeats 400000 in
theorem atom_any (s : ByteArray) (hs : s.size ≤ maxLen) (w : World) :
    Calls Tryd.prog 26 #[.string s] w fun e w' => e = .returned (.bool (allS atomB s.data.toList)) ∧ w = w' := by
  go_enter Tryd.func26, Tryd.ntmps26
  go_wp2_with (go_at_call 44; refine (all_any _ _ asks_atom _ hs _).mono ?_; rintro e w' ⟨rfl, rfl⟩)
  go_ret
  exact ⟨rfl, rfl⟩
set_option maxHeartbeats 400000 in
theorem refAtom_any (s : ByteArray) (hs : s.size ≤ maxLen) (w : World) :
    Calls Tryd.prog 41 #[.string s] w fun e w' => e = .returned (.bool (allS atomB s.data.toList)) ∧ w = w' := by
  unfold maxLen at hs
  go_enter Tryd.func41, Tryd.ntmps41
  go_wp2_with fail
  go_loop [3] (fun i => ∃ k : Nat, k ≤ s.size ∧ i = .int .i64 k ∧ Hid (allB atomB (s.data.toList.take k) = true)) (fun i => s.size - (intOf i).toNat)
  case atStart => exact ⟨0, Nat.zero_le _, rfl, rfl⟩
  case round =>
    obtain ⟨k, hk, rfl, hp⟩ := hrel
    by_cases hlt : k < s.size
    · have hsn : Hid (allB atomB (s.data.toList.take (k+1)) = atomB s[k].toNat) := by
        show _ = _
        rw [take_snoc s k hlt, allB_snoc, hp.out]; simp
      go_wp2_with fail
      refine (atomByte_any _ _).mono ?_
      rintro e w' ⟨rfl, rfl⟩
      cases hc : atomB ↑s[k].toNat
      · go_wp2_with fail
        go_ret
        exact ⟨ret_bool (by simp [allS, allB_false atomB s k hlt hc]), rfl⟩
      · go_wp2_with fail
        refine ⟨⟨k + 1, by omega, by go_num, hsn.out.trans hc⟩, by simp [intOf]; omega⟩
    · obtain rfl : k = s.size := by omega
      go_wp2_with fail
      go_ret
      rw [take_all] at hp
      exact ⟨ret_bool (by have := hp.out; (first | rw [size_pos_bool] | rw [size_pos_boolI]); simp [allS, this]), rfl⟩
end Go.Proofs.YtfglfoapgpghkaaDoor
