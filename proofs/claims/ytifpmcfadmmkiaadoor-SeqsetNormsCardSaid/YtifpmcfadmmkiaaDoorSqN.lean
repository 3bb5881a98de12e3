/- cmp.Less; insertion sort: walked. -/
import Derived.Test.YtifpmcfadmmkiaaDoorSqM
import Derived.BigRegion
namespace Go.Proofs.YtifpmcfadmmkiaaDoor
open Go.RowKit

set_option maxHeartbeats 1000000 in
theorem isNaN_any (x : Nat) (w : World) : Calls Tryd.prog 88 #[.int .u64 x] w fun e w' => e = .returned (.bool false) ∧ w' = w := by
  go_enter Tryd.func88, Tryd.ntmps88
  go_wp2_with fail
  go_ret
  exact ⟨by simp, rfl⟩
set_option maxHeartbeats 1000000 in
theorem less_any (x y : Nat) (w : World) : Calls Tryd.prog 65 #[.int .u64 x, .int .u64 y] w fun e w' => e = .returned (.bool (decide (x < y))) ∧ w' = w := by
  have h1 := Lib.hid (fun w => isNaN_any x w)
  go_enter Tryd.func65, Tryd.ntmps65
  go_wp2_with fail
  refine (h1.out _).mono ?_
  rintro e w1 ⟨rfl, rfl⟩
  go_wp2_with fail
  go_ret
  exact ⟨by simp, rfl⟩
set_option maxRecDepth 100000 in
set_option maxHeartbeats 4000000 in
theorem insertion_any (g cap : Nat) (l0 : List Nat) (rest : List Value) (a b : Nat) (hab : a ≤ b) (hbl : b ≤ l0.length) (hlen : l0.length ≤ 4611686018427387904) (W0 : World) (hr : Row W0 g l0 rest) :
    Calls Tryd.prog 59 #[.slice (some ⟨g, 0, none⟩) l0.length cap, .int .i64 a, .int .i64 b] W0 fun e W' => e = .returned (.tuple #[]) ∧ ∃ l', Hid (Row W' g l' rest) ∧ Hid (Turned a b l0 l' ∧ SortedOn l' a b) ∧ Hid (Kept1 W0 g W') := by
  replace hr := Lib.hid hr
  have hle := Lib.hid less_any
  go_enter Tryd.func59, Tryd.ntmps59
  go_wp2_with fail
  go_loopw [6] (fun v6 wr => ∃ (i : Nat) (l : List Nat), v6 = .int .i64 i ∧ a + 1 ≤ i ∧ (i ≤ b ∨ i = a + 1) ∧ Hid (Row wr g l rest) ∧ Hid (Turned a b l0 l ∧ SortedOn l a i) ∧ Hid (Kept1 W0 g wr)) (fun v6 _ => b - (intOf v6).toNat)
  case atStart => exact ⟨a + 1, l0, by go_num, Nat.le_refl _, .inr rfl, hr, Lib.hid ⟨Turned.refl _ _ _, fun p q h1 h2 h3 => by omega⟩, Lib.hid (Kept1.refl _ _)⟩
  case round =>
    obtain ⟨i, l, rfl, hi, hi2, hrow, hts, hk⟩ := hrel
    by_cases hlt : i < b
    · have hll := Lib.hid hts.out.1.len
      go_wp2_with fail
      go_loopw [7] (fun v7 wr => ∃ (j : Nat) (l : List Nat), v7 = .int .i64 j ∧ a ≤ j ∧ j ≤ i ∧ Hid (Row wr g l rest) ∧ Hid (Turned a b l0 l ∧ Hole l a i j) ∧ Hid (Kept1 W0 g wr)) (fun v7 _ => (intOf v7).toNat)
      case atStart => exact ⟨i, l, rfl, by omega, Nat.le_refl _, hrow, Lib.hid ⟨hts.out.1, Hole.start hts.out.2⟩, hk⟩
      case round =>
        clear hrow hts hk hll
        obtain ⟨j, l, rfl, haj, hji, hrow, hts, hk⟩ := hrel
        have hll := hts.out.1.len
        by_cases hj : a < j
        · obtain ⟨k, rfl⟩ : ∃ k, j = k + 1 := ⟨j - 1, by omega⟩
          have c1 := hrow.out.cell (k + 1) (by omega)
          have c0 := hrow.out.cell k (by omega)
          have f1 := hrow.out.free (k + 1)
          have f0 := hrow.out.free k
          have e1 : at_ l (k + 1) = l[k + 1] := at_lt (by omega)
          have e0 : at_ l k = l[k] := at_lt (by omega)
          rw [← e1] at c1
          rw [← e0] at c0
          have hsw := fun W (h : Row W g l rest) => (h.set (k + 1) (by omega) (at_ l k)).set k (by rw [List.length_set]; omega) (at_ l (k + 1))
          have hks := fun (W : World) (h : Kept1 W0 g W) => (h.set (k + 1) (.int .u64 (at_ l k))).set k (.int .u64 (at_ l (k + 1)))
          have hyes : at_ l (k + 1) < at_ l k → Turned a b l0 (swp l (k + 1) k) ∧ Hole (swp l (k + 1) k) a i k := fun h => ⟨hts.out.1.trans (Turned.swp l (k + 1) k ⟨by omega, by omega⟩ ⟨by omega, by omega⟩ (by omega)), by
            have := hts.out.2.step hj hji (by omega) (by simpa using h)
            simpa using this⟩
          have hno : ¬ at_ l (k + 1) < at_ l k → Turned a b l0 l ∧ SortedOn l a (i + 1) := fun h => ⟨hts.out.1, hts.out.2.done (.inr ⟨hj, by simpa using h⟩) haj⟩
          have hsw' : ∀ W, Row W g l rest → Row ((W.setCell ⟨g, k + 1, none⟩ (.int .u64 (at_ l k))).setCell ⟨g, k, none⟩ (.int .u64 (at_ l (k + 1)))) g (swp l (k + 1) k) rest := hsw
          clear hsw
          have hcmp := Lib.hid (fun n => hle.out (at_ l (k + 1)) (at_ l k) (wr.drewN n))
          have hi0 : (0 : Int) ≤ (k : Int) := by omega
          have hi1 : (k : Int) + 1 < (l0.length : Int) := by omega
          have hi2' : (k : Int) < (l0.length : Int) := by omega
          have hd : decide ((a : Int) < (k : Int) + 1) = true := by simp; omega
          clear e1 e0 hts
          generalize swp l (k + 1) k = ls at hsw' hyes
          generalize at_ l (k + 1) = x at c1 hsw' hks hyes hno hcmp
          generalize at_ l k = y at c0 hsw' hks hyes hno hcmp
          by_cases hxy : x < y
          · have hh := Lib.hid (hyes hxy)
            rw [decide_eq_true hxy] at hcmp
            replace hsw' := Lib.hid hsw'
            replace hks := Lib.hid hks
            clear hyes hno hxy
            go_wp2_with fail
            go_quiet ((go_at_call 65; exact Calls.quiet_of_same (hcmp.out _)))
            have hrow2 := Lib.hid (hrow.out.drewN nq)
            have hk2 := Lib.hid (hk.out.drewN nq)
            have c1 : (wr.drewN nq).cell? ⟨g, k + 1, none⟩ = some (.int .u64 x) := c1
            have c0 : (wr.drewN nq).cell? ⟨g, k, none⟩ = some (.int .u64 y) := c0
            have f1 : (wr.drewN nq).frozen? ⟨g, k + 1, none⟩ = false := f1
            have f0 : (wr.drewN nq).frozen? ⟨g, k, none⟩ = false := f0
            generalize wr.drewN nq = w2 at hrow2 hk2 c1 c0 f1 f0 ⊢
            go_wp2_with fail
            go_region
            have hrow3 := Lib.hid (hsw'.out w2 hrow2.out).drew
            have hk3 := Lib.hid ((hks.out w2 hk2.out).drewN 1)
            clear hrow hk hcmp hrow2 hk2 hsw' hks c1 c0 f1 f0
            generalize hW3 : ((w2.setCell ⟨g, k + 1, none⟩ (.int .u64 y)).setCell ⟨g, k, none⟩ (.int .u64 x)).drew = w3 at hrow3 ⊢
            have hk4 : Hid (Kept1 W0 g w3) := by rw [← hW3]; exact hk3
            clear hk3 hW3
            go_wp2_with fail
            go_roundw
            case rel => exact ⟨k, ls, rfl, by omega, by omega, hrow3, hh, hk4⟩
            case measure => simp [intOf] <;> omega
          · have hh := Lib.hid (hno hxy)
            rw [decide_eq_false hxy] at hcmp
            clear hyes hno hxy hsw' hks
            go_wp2_with fail
            go_quiet ((go_at_call 65; exact Calls.quiet_of_same (hcmp.out _)))
            have hrow2 := Lib.hid (hrow.out.drewN nq)
            have hk2 := Lib.hid (hk.out.drewN nq)
            generalize wr.drewN nq = w2 at hrow2 hk2 ⊢
            clear hcmp hrow hk c1 c0 f1 f0
            go_wp2_with fail
            go_roundw
            case rel => exact ⟨i + 1, l, by go_num, by omega, .inl (by omega), hrow2, hh, hk2⟩
            case measure => simp [intOf] <;> omega
        · obtain rfl : j = a := by omega
          have hh := Lib.hid (And.intro hts.out.1 (hts.out.2.done (.inl rfl) haj))
          have hd : decide ((j : Int) < (j : Int)) = false := by simp
          go_wp2_with fail
          go_quiet (fail)
          have hrow2 := Lib.hid (hrow.out.drewN nq)
          have hk2 := Lib.hid (hk.out.drewN nq)
          generalize wr.drewN nq = w2 at hrow2 hk2 ⊢
          clear hrow hk hts
          go_wp2_with fail
          go_roundw
          case rel => exact ⟨i + 1, l, by go_num, by omega, .inl (by omega), hrow2, hh, hk2⟩
          case measure => simp [intOf] <;> omega
    · have hh := Lib.hid (And.intro hts.out.1 (show SortedOn l a b from fun p q h1 h2 h3 => hts.out.2 p q h1 h2 (by omega)))
      go_wp2_with fail
      go_end0
      exact ⟨rfl, l, hrow, hh, hk⟩
end Go.Proofs.YtifpmcfadmmkiaaDoor
