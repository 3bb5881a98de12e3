/- Split of the document; Section and Holds of both: walked. -/
import Derived.Test.YtgijkpbeokclkaaDoorPaC
namespace Go.Proofs.YtgijkpbeokclkaaDoor
open Go.RowKit

theorem at_zero (s u : ByteArray) (hs : s.size ≤ 140737488355328) (hu : u.size ≤ 140737488355328) (w : World) :
    Calls Tryd.prog 22 #[.string s, .int .i64 0, .string u] w fun e w' => e = .returned (.bool (atL s.data.toList 0 u.data.toList)) ∧ w = w' := by
  have h := at_any s u 0 hs hu (by decide) w
  rw [decide_eq_true (Nat.zero_le _), Bool.true_and] at h
  exact h
set_option maxHeartbeats 1000000 in
theorem refSplit_any (s : ByteArray) (hs : s.size ≤ 140737488355328) (w : World) :
    Calls Tryd.prog 17 #[.string s] w (SplitRet s.data.toList w) := by
  have hp := at_zero s ⟨#[13, 10]⟩ hs (by decide) w
  have hsl : s.data.toList.length = s.size := rfl
  cases hA : atL s.data.toList 0 [13, 10]
  · replace hp : Calls Tryd.prog 22 #[.string s, .int .i64 0, .string ⟨#[13, 10]⟩] w fun e w' => e = .returned (.bool false) ∧ w = w' := by rw [← hA]; exact hp
    replace hp := Lib.hid hp
    replace hA := Lib.hid hA
    have hsl0 := Lib.hid hsl
    clear hsl
    go_enter Tryd.func17, Tryd.ntmps17
    go_wp2_with fail
    refine hp.out.mono ?_
    rintro e w' ⟨rfl, rfl⟩
    go_wp2_with fail
    go_loop [4] (fun vk => ∃ k : Nat, vk = .int .i64 k ∧ k ≤ s.size ∧ Hid (∀ j, j < k → atL s.data.toList j [13, 10, 13, 10] = false)) (fun vk => s.size - (intOf vk).toNat)
    case atStart => exact ⟨0, rfl, Nat.zero_le _, Lib.hid (fun j hj => by omega)⟩
    case round =>
      obtain ⟨k, rfl, hk, hno⟩ := hrel
      by_cases hlt : k < s.size
      · have hat := at_any s ⟨#[13, 10, 13, 10]⟩ k hs (by decide) (by omega) w
        rw [decide_eq_true hk, Bool.true_and] at hat
        cases hB : atL s.data.toList k [13, 10, 13, 10]
        · replace hat : Calls Tryd.prog 22 #[.string s, .int .i64 k, .string ⟨#[13, 10, 13, 10]⟩] w fun e w' => e = .returned (.bool false) ∧ w = w' := by rw [← hB]; exact hat
          replace hat := Lib.hid hat
          have hn : Hid (∀ j, j < k + 1 → atL s.data.toList j [13, 10, 13, 10] = false) := Lib.hid (fun j hj => by
            rcases Nat.lt_or_ge j k with h | h
            · exact hno.out j h
            · obtain rfl : j = k := by omega
              exact hB)
          replace hB := Lib.hid hB
          go_wp2_with fail
          refine hat.out.mono ?_
          rintro e w' ⟨rfl, rfl⟩
          go_wp2_with fail
          go_round
          case rel => exact ⟨k + 1, by go_num, by omega, hn⟩
          case measure => simp [intOf]; omega
        · replace hat : Calls Tryd.prog 22 #[.string s, .int .i64 k, .string ⟨#[13, 10, 13, 10]⟩] w fun e w' => e = .returned (.bool true) ∧ w = w' := by rw [← hB]; exact hat
          replace hat := Lib.hid hat
          have hib : k + 4 ≤ s.size := at_fits hB (by rw [hsl0.out]; exact hk)
          have hsp : Hid (splitM s.data.toList = (s.data.toList.take (k + 4), s.data.toList.drop (k + 4))) := Lib.hid (by
            have hix : Lib.index s.data.toList [13, 10, 13, 10] = k := Lib.index_first (by rw [hsl0.out]; exact hk) hB (fun j hj => hno.out j hj)
            rw [splitM, if_neg (by rw [hA.out]; simp), hix, if_neg (by omega)]; rfl)
          replace hB := Lib.hid hB
          clear hno
          go_wp2_with fail
          refine hat.out.mono ?_
          rintro e w' ⟨rfl, rfl⟩
          go_wp2_with fail
          go_region
          go_wp2_with fail
          go_ret2
          refine ⟨_, _, rfl, Lib.hid ?_, 1, rfl⟩
          rw [hsp.out]
          refine ⟨?_, ?_⟩
          · rw [Lib.extract_data]; simp
          · rw [Lib.extract_data]
            exact List.take_of_length_le (by rw [List.length_drop]; exact Nat.le_refl _)
      · have hsp : Hid (splitM s.data.toList = (s.data.toList, [])) := Lib.hid (by
          have hix : Lib.index s.data.toList [13, 10, 13, 10] = -1 := Lib.index_none (fun j hj => by
            rcases Nat.lt_or_ge j k with h | h
            · exact hno.out j h
            · show atL s.data.toList j [13, 10, 13, 10] = false
              rw [atL, prefix_short _ _ (by rw [List.length_drop, hsl0.out]; simp; omega)])
          rw [splitM, if_neg (by rw [hA.out]; simp), if_pos hix])
        clear hno
        go_wp2_with fail
        go_ret2
        exact ⟨_, _, rfl, Lib.hid (by rw [hsp.out]; exact ⟨rfl, rfl⟩), 0, rfl⟩
  · replace hp : Calls Tryd.prog 22 #[.string s, .int .i64 0, .string ⟨#[13, 10]⟩] w fun e w' => e = .returned (.bool true) ∧ w = w' := by rw [← hA]; exact hp
    have h2 : 2 ≤ s.size := by
      rcases Nat.lt_or_ge s.size 2 with h | h
      · rw [atL, prefix_short _ _ (by simp; omega)] at hA; cases hA
      · exact h
    have hsp : Hid (splitM s.data.toList = (s.data.toList.take 2, s.data.toList.drop 2)) := Lib.hid (by rw [splitM, if_pos hA])
    replace hp := Lib.hid hp
    replace hA := Lib.hid hA
    clear hsl
    go_enter Tryd.func17, Tryd.ntmps17
    go_wp2_with fail
    refine hp.out.mono ?_
    rintro e w' ⟨rfl, rfl⟩
    go_wp2_with fail
    go_region
    go_wp2_with fail
    go_ret2
    refine ⟨_, _, rfl, Lib.hid ?_, 1, rfl⟩
    rw [hsp.out]
    refine ⟨?_, ?_⟩
    · rw [Lib.extract_data]; simp
    · rw [Lib.extract_data]
      exact List.take_of_length_le (by rw [List.length_drop]; exact Nat.le_refl _)
end Go.Proofs.YtgijkpbeokclkaaDoor
