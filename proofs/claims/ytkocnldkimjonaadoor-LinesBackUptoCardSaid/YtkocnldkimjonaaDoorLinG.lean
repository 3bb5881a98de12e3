/- Same: things heard that are the same are told to be so. -/
import Derived.Test.YtkocnldkimjonaaDoorLinF
namespace Go.Proofs.YtkocnldkimjonaaDoor
open Go.RowKit

set_option maxRecDepth 100000 in
set_option maxHeartbeats 1000000 in
theorem same_any (B1 B2 : Nat) (w : World) (va vb : Value) (l : List (Nat × List UInt8)) (ha : OwnHeards w B1 va l) (hb : OwnHeards w B2 vb l) (hl : l.length ≤ 4194304) :
    Calls Tryd.prog 12 #[va, vb] w fun e w' => e = .returned (.bool true) ∧ ∃ n, w' = w.drewN n := by
  rcases ha.form with ⟨rfl, rfl⟩ | ⟨g1, c1, rfl⟩
  · rcases hb.form with ⟨_, rfl⟩ | ⟨g2, c2, rfl⟩
    all_goals
      go_enter Tryd.func12, Tryd.ntmps12
      go_wp2_with fail
      go_loopw [5] (fun i wr => i = .int .i64 0 ∧ wr = w) (fun _ _ => 0)
      case atStart => exact ⟨rfl, rfl⟩
      case round =>
        obtain ⟨rfl, rfl⟩ := hrel
        go_wp2_with fail
        go_ret
        exact ⟨rfl, 0, rfl⟩
  · obtain ⟨vb', hvb⟩ : ∃ x, x = vb := ⟨_, rfl⟩
    rcases hb.form with ⟨rfl, rfl⟩ | ⟨g2, c2, rfl⟩
    · go_enter Tryd.func12, Tryd.ntmps12
      go_wp2_with fail
      go_loopw [5] (fun i wr => i = .int .i64 0 ∧ wr = w) (fun _ _ => 0)
      case atStart => exact ⟨rfl, rfl⟩
      case round =>
        obtain ⟨rfl, rfl⟩ := hrel
        go_wp2_with fail
        go_ret
        exact ⟨rfl, 0, rfl⟩
    · go_enter Tryd.func12, Tryd.ntmps12
      go_wp2_with fail
      go_loopw [5] (fun i wr => ∃ (k n : Nat), i = .int .i64 k ∧ k ≤ l.length ∧ wr = w.drewN n) (fun i _ => l.length - (intOf i).toNat)
      case atStart => exact ⟨0, 0, rfl, Nat.zero_le _, rfl⟩
      case round =>
        obtain ⟨k, n, rfl, hk, rfl⟩ := hrel
        by_cases hlt : k < l.length
        · obtain ⟨x, hx⟩ : ∃ x, l[k]? = some x := ⟨_, List.getElem?_eq_getElem hlt⟩
          obtain ⟨p0, p1⟩ := ha.cell k x hx
          obtain ⟨q0, q1⟩ := hb.cell k x hx
          go_wp2_with fail
          go_quiet (fail)
          go_wp2_with fail
          go_roundw
          case rel => exact ⟨k + 1, _, by go_num, by omega, rfl⟩
          case measure => simp [intOf]; omega
        · go_wp2_with fail
          go_ret
          exact ⟨rfl, n, rfl⟩
end Go.Proofs.YtkocnldkimjonaaDoor
