/- Cut of the program: walked. -/
import Derived.Test.YtgijkpbeokclkaaDoorPaA
namespace Go.Proofs.YtgijkpbeokclkaaDoor
open Go.RowKit

def cutL (s : List UInt8) (f c : Nat) : List UInt8 := (s.drop f).take c
set_option maxHeartbeats 1000000 in
theorem cut_any (s : ByteArray) (f c : Nat) (hs : s.size ≤ 140737488355328) (hf : f < 18446744073709551616) (hc : c < 18446744073709551616) (w : World) :
    Calls Tryd.prog 20 #[.string s, .int .u64 f, .int .u64 c] w fun e w' => ∃ u : ByteArray, e = .returned (.string u) ∧ Hid (u.data.toList = cutL s.data.toList f c) ∧ w = w' := by
  go_enter Tryd.func20, Tryd.ntmps20
  go_wp2_with fail
  go_ret
  refine ⟨_, rfl, Lib.hid ?_, rfl⟩
  have e1 : (min (f : Int) (s.size : Int)).toNat = min f s.size := by omega
  have hsl : s.data.toList.length = s.size := rfl
  simp only [e1, Lib.extract_data, cutL]
  rw [show (min (c : Int) ((s.size - min f s.size : Nat) : Int)).toNat - 0 = min c (s.size - min f s.size) by omega, List.drop_zero]
  have hd : s.data.toList.drop (min f s.size) = s.data.toList.drop f := by
    rcases Nat.le_total f s.size with h | h
    · rw [Nat.min_eq_left h]
    · rw [Nat.min_eq_right h, List.drop_of_length_le (by omega), List.drop_of_length_le (by omega)]
  have hl : (s.data.toList.drop f).length = s.size - min f s.size := by rw [List.length_drop]; omega
  rw [hd, List.take_of_length_le (Nat.le_of_eq hl)]
  rcases Nat.le_total c (s.size - min f s.size) with h | h
  · rw [Nat.min_eq_left h]
  · rw [Nat.min_eq_right h, List.take_of_length_le (by omega), List.take_of_length_le (by omega)]
end Go.Proofs.YtgijkpbeokclkaaDoor
