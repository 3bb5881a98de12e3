/- partition: walked. (written by gen_PdD.py) -/
import Derived.Test.YtcnebfmlelcliaaB14
namespace Go.Proofs.Ytcnebfmlelcliaa
open Go.RowKit

def PartRet2 (W0 : World) (g : Nat) (l0 : List Nat) (rest : List Value) (a b : Nat) (e : Ending) (W' : World) : Prop := ∃ (m : Nat) (x : Bool) (l' : List Nat), e = .returned (.tuple #[.int .i64 m, .bool x]) ∧ a ≤ m ∧ m < b ∧ Hid (Row W' g l' rest) ∧ Hid (Turned a b l0 l' ∧ Parted l' a b m) ∧ Hid (Kept1 W0 g W')
set_option maxRecDepth 100000 in
set_option maxHeartbeats 8000000 in
theorem partition_any (g cap : Nat) (l0 : List Nat) (rest : List Value) (a b p : Nat) (hap : a ≤ p) (hpb : p < b) (hfl : b ≤ l0.length) (hlen : l0.length ≤ 2305843009213693952) (W0 : World) (hr : Row W0 g l0 rest) :
    Calls Try.prog 80 #[.slice (some ⟨g, 0, none⟩) l0.length cap, .int .i64 a, .int .i64 b, .int .i64 p] W0 (PartRet2 W0 g l0 rest a b) := by
  have hrow := Lib.hid hr
  have hk := Lib.hid (Kept1.refl W0 g)
  have hle := Lib.hid less_any
  have hb1 : (a : Int) < (l0.length : Int) := by omega
  have hb2 : (p : Int) < (l0.length : Int) := by omega
  have hst0 := Lib.hid (PSt.start hap hpb hfl)
  clear hr
  obtain ⟨l, hl⟩ : ∃ l, l = l0 := ⟨_, rfl⟩
  have hst1 : Hid (PSt l0 (swp l a p) a b (a + 1) (b - 1)) := by rw [hl]; exact hst0
  have hll : l.length = l0.length := by rw [hl]
  rw [← hl] at hrow
  clear hl hst0
  go_enter Try.func80, Try.ntmps80
  go_wp2_with fail
  by_cases heq : a = p
  · obtain rfl : a = p := heq
    have ci := hrow.out.at (a) (by omega)
    have fi := hrow.out.free (a)
    have hsw := Lib.hid (fun (W : World) (h : Row W g l rest) => h.swapW (a) (a) (by omega) (by omega))
    have hh := hst1
    clear hst1
    generalize swp l (a) (a) = ls1 at hsw hh
    generalize at_ l (a) = x1 at ci hsw
    go_wp2_with fail
    go_region
    replace hrow := Lib.hid (hsw.out _ hrow.out)
    replace hk := Lib.hid (hk.out.swapW (a) (a) (.int .u64 x1) (.int .u64 x1))
    clear hsw ci fi
    generalize ((W0.setCell ⟨g, a, none⟩ (.int .u64 (x1 : Nat))).setCell ⟨g, a, none⟩ (.int .u64 (x1 : Nat))).drew = w1 at hrow hk ⊢
    have hij : a + 1 ≤ b - 1 + 1 := by omega
    have hai : a < a + 1 := Nat.lt_succ_self a
    have hjb : b - 1 < b := by omega
    have haj : a ≤ b - 1 := by omega
    obtain ⟨i0, hi⟩ : ∃ i0, i0 = a + 1 := ⟨_, rfl⟩
    obtain ⟨j0, hj⟩ : ∃ j0, j0 = b - 1 := ⟨_, rfl⟩
    rw [← hi, ← hj] at hh
    rw [← hi] at hai
    rw [← hi, ← hj] at hij
    rw [← hj] at hjb haj
    have hei : (a : Int) + 1 = (i0 : Int) := by omega
    have hej : (b : Int) - 1 = (j0 : Int) := by omega
    clear hi hj
    have hst := hh
    clear hh
    obtain ⟨l, hl⟩ : ∃ l, ls1 = l := ⟨_, rfl⟩
    rw [hl] at hrow hst
    clear hl ls1
    go_wp2_with fail
    go_loopw [10] (fun vi wr => ∃ (i : Nat), vi = .int .i64 i ∧ i0 ≤ i ∧ a < i ∧ i ≤ j0 + 1 ∧ Hid (Row wr g l rest) ∧ Hid (PSt l0 l a b i j0) ∧ Hid (Kept1 W0 g wr)) (fun vi _ => b - (intOf vi).toNat)
    case atStart => exact ⟨i0, by first | rfl | go_num, Nat.le_refl _, by omega, by omega, hrow, hst, hk⟩
    case round =>
      clear hrow hst hk hai hij hei hej
      obtain ⟨i, rfl, hii, hai, hij, hrow, hst, hk⟩ := hrel
      have hll := hst.out.turned.len
      by_cases hsm : i ≤ j0
      · have hd : decide ((i : Int) ≤ (j0 : Int)) = true := by simp; omega
        have hb1 : (i : Int) < (l0.length : Int) := by omega
        have hb2 : (a : Int) < (l0.length : Int) := by omega
        have ci := hrow.out.at (i) (by omega)
        have cj := hrow.out.at (a) (by omega)
        have hcmp := Lib.hid (fun n => hle.out (at_ l (i)) (at_ l (a)) (wr.drewN n))
        by_cases hlt : at_ l (i) < at_ l (a)
        · have hst2 := Lib.hid (hst.out.up hlt)
          clear hst
          rw [decide_eq_true hlt] at hcmp
          clear hlt
          generalize at_ l (i) = x1 at ci hcmp
          generalize at_ l (a) = x2 at cj hcmp
          go_wp2_with fail
          go_quiet ((go_at_call 78; exact Calls.quiet_of_same (hcmp.out _)))
          replace hrow := Lib.hid (hrow.out.drewN nq)
          replace hk := Lib.hid (hk.out.drewN nq)
          generalize wr.drewN nq = w2 at hrow hk ⊢
          clear hcmp ci cj
          go_wp2_with fail
          go_roundw
          case rel => exact ⟨i + 1, by go_num, by omega, by omega, by omega, hrow, hst2, hk⟩
          case measure => simp [intOf] <;> omega
        · have h1 := Lib.hid hlt
          rw [decide_eq_false hlt] at hcmp
          clear hlt
          generalize at_ l (i) = x1 at ci hcmp
          generalize at_ l (a) = x2 at cj hcmp
          go_wp2_with fail
          go_quiet ((go_at_call 78; exact Calls.quiet_of_same (hcmp.out _)))
          replace hrow := Lib.hid (hrow.out.drewN nq)
          replace hk := Lib.hid (hk.out.drewN nq)
          generalize wr.drewN nq = w2 at hrow hk ⊢
          clear hcmp ci cj
          go_wp2_with fail
          go_loopw [11] (fun vj wr => ∃ (j : Nat), vj = .int .i64 j ∧ j ≤ j0 ∧ i ≤ j + 1 ∧ j < b ∧ a ≤ j ∧ Hid (Row wr g l rest) ∧ Hid (PSt l0 l a b i j) ∧ Hid (Kept1 W0 g wr)) (fun vj _ => (intOf vj).toNat)
          case atStart => exact ⟨j0, by first | rfl | go_num, Nat.le_refl _, by omega, by omega, by omega, hrow, hst, hk⟩
          case round =>
            clear hrow hst hk hij hjb hsm
            obtain ⟨j, rfl, hjj, hij, hjb, haj, hrow, hst, hk⟩ := hrel
            have hll := hst.out.turned.len
            by_cases hsm : i ≤ j
            · obtain ⟨t, rfl⟩ : ∃ t, j = t + 1 := ⟨j - 1, by omega⟩
              have hd : decide ((i : Int) ≤ (t : Int) + 1) = true := by simp; omega
              have hb1 : (t : Int) + 1 < (l0.length : Int) := by omega
              have hb2 : (a : Int) < (l0.length : Int) := by omega
              have ci := hrow.out.at (t + 1) (by omega)
              have cj := hrow.out.at (a) (by omega)
              have hcmp := Lib.hid (fun n => hle.out (at_ l (t + 1)) (at_ l (a)) (wr.drewN n))
              by_cases hlt : at_ l (t + 1) < at_ l (a)
              · have h2 := Lib.hid hlt
                rw [decide_eq_true hlt] at hcmp
                clear hlt
                generalize at_ l (t + 1) = x1 at ci hcmp
                generalize at_ l (a) = x2 at cj hcmp
                go_wp2_with fail
                go_quiet ((go_at_call 78; exact Calls.quiet_of_same (hcmp.out _)))
                replace hrow := Lib.hid (hrow.out.drewN nq)
                replace hk := Lib.hid (hk.out.drewN nq)
                generalize wr.drewN nq = w3 at hrow hk ⊢
                clear hcmp ci cj
                have ci := hrow.out.at (i) (by omega)
                have cj := hrow.out.at (t + 1) (by omega)
                have fi := hrow.out.free (i)
                have fj := hrow.out.free (t + 1)
                have hsw := Lib.hid (fun (W : World) (h : Row W g l rest) => h.swapW (i) (t + 1) (by omega) (by omega))
                have hh := Lib.hid (hst.out.swap hai hsm hjb (by omega) h1.out h2.out).2
                have hlt3 := (hst.out.swap hai hsm hjb (by omega) h1.out h2.out).1
                have hne : i ≠ t + 1 := by omega
                clear h1 h2 hst
                generalize swp l (i) (t + 1) = ls2 at hsw hh
                generalize at_ l (i) = x1 at ci hsw
                generalize at_ l (t + 1) = x2 at cj hsw
                go_wp2_with fail
                go_region
                replace hrow := Lib.hid (hsw.out _ hrow.out)
                replace hk := Lib.hid (hk.out.swapW (i) (t + 1) (.int .u64 x2) (.int .u64 x1))
                clear hsw ci cj fi fj
                generalize ((w3.setCell ⟨g, i, none⟩ (.int .u64 (x2 : Nat))).setCell ⟨g, t + 1, none⟩ (.int .u64 (x1 : Nat))).drew = w4 at hrow hk ⊢
                go_wp2_with fail
                go_loopw [10, 11] (fun v10 v11 wr => ∃ (i j : Nat) (l : List Nat), v10 = .int .i64 i ∧ v11 = .int .i64 j ∧ a < i ∧ i ≤ j + 1 ∧ j < b ∧ a ≤ j ∧ Hid (Row wr g l rest) ∧ Hid (PSt l0 l a b i j) ∧ Hid (Kept1 W0 g wr)) (fun v10 v11 _ => (intOf v11 + 1 - intOf v10).toNat)
                case atStart => exact ⟨i + 1, t, ls2, by go_num, by go_num, by omega, by omega, by omega, by omega, hrow, hh, hk⟩
                case round =>
                  clear hrow hh hk hai hij hjb hsm haj hlt3 hne
                  obtain ⟨i0, j0, l, rfl, rfl, hai, hij, hjb, haj, hrow, hst, hk⟩ := hrel
                  go_wp2_with fail
                  go_loopw [10] (fun vi wr => ∃ (i : Nat), vi = .int .i64 i ∧ i0 ≤ i ∧ a < i ∧ i ≤ j0 + 1 ∧ Hid (Row wr g l rest) ∧ Hid (PSt l0 l a b i j0) ∧ Hid (Kept1 W0 g wr)) (fun vi _ => b - (intOf vi).toNat)
                  case atStart => exact ⟨i0, by first | rfl | go_num, Nat.le_refl _, by omega, by omega, hrow, hst, hk⟩
                  case round =>
                    clear hrow hst hk hai hij
                    obtain ⟨i, rfl, hii, hai, hij, hrow, hst, hk⟩ := hrel
                    have hll := hst.out.turned.len
                    by_cases hsm : i ≤ j0
                    · have hd : decide ((i : Int) ≤ (j0 : Int)) = true := by simp; omega
                      have hb1 : (i : Int) < (l0.length : Int) := by omega
                      have hb2 : (a : Int) < (l0.length : Int) := by omega
                      have ci := hrow.out.at (i) (by omega)
                      have cj := hrow.out.at (a) (by omega)
                      have hcmp := Lib.hid (fun n => hle.out (at_ l (i)) (at_ l (a)) (wr.drewN n))
                      by_cases hlt : at_ l (i) < at_ l (a)
                      · have hst2 := Lib.hid (hst.out.up hlt)
                        clear hst
                        rw [decide_eq_true hlt] at hcmp
                        clear hlt
                        generalize at_ l (i) = x1 at ci hcmp
                        generalize at_ l (a) = x2 at cj hcmp
                        go_wp2_with fail
                        go_quiet ((go_at_call 78; exact Calls.quiet_of_same (hcmp.out _)))
                        replace hrow := Lib.hid (hrow.out.drewN nq)
                        replace hk := Lib.hid (hk.out.drewN nq)
                        generalize wr.drewN nq = w2 at hrow hk ⊢
                        clear hcmp ci cj
                        go_wp2_with fail
                        go_roundw
                        case rel => exact ⟨i + 1, by go_num, by omega, by omega, by omega, hrow, hst2, hk⟩
                        case measure => simp [intOf] <;> omega
                      · have h1 := Lib.hid hlt
                        rw [decide_eq_false hlt] at hcmp
                        clear hlt
                        generalize at_ l (i) = x1 at ci hcmp
                        generalize at_ l (a) = x2 at cj hcmp
                        go_wp2_with fail
                        go_quiet ((go_at_call 78; exact Calls.quiet_of_same (hcmp.out _)))
                        replace hrow := Lib.hid (hrow.out.drewN nq)
                        replace hk := Lib.hid (hk.out.drewN nq)
                        generalize wr.drewN nq = w2 at hrow hk ⊢
                        clear hcmp ci cj
                        go_wp2_with fail
                        go_loopw [11] (fun vj wr => ∃ (j : Nat), vj = .int .i64 j ∧ j ≤ j0 ∧ i ≤ j + 1 ∧ j < b ∧ a ≤ j ∧ Hid (Row wr g l rest) ∧ Hid (PSt l0 l a b i j) ∧ Hid (Kept1 W0 g wr)) (fun vj _ => (intOf vj).toNat)
                        case atStart => exact ⟨j0, by first | rfl | go_num, Nat.le_refl _, by omega, by omega, by omega, hrow, hst, hk⟩
                        case round =>
                          clear hrow hst hk hij hjb hsm
                          obtain ⟨j, rfl, hjj, hij, hjb, haj, hrow, hst, hk⟩ := hrel
                          have hll := hst.out.turned.len
                          by_cases hsm : i ≤ j
                          · obtain ⟨t, rfl⟩ : ∃ t, j = t + 1 := ⟨j - 1, by omega⟩
                            have hd : decide ((i : Int) ≤ (t : Int) + 1) = true := by simp; omega
                            have hb1 : (t : Int) + 1 < (l0.length : Int) := by omega
                            have hb2 : (a : Int) < (l0.length : Int) := by omega
                            have ci := hrow.out.at (t + 1) (by omega)
                            have cj := hrow.out.at (a) (by omega)
                            have hcmp := Lib.hid (fun n => hle.out (at_ l (t + 1)) (at_ l (a)) (wr.drewN n))
                            by_cases hlt : at_ l (t + 1) < at_ l (a)
                            · have h2 := Lib.hid hlt
                              rw [decide_eq_true hlt] at hcmp
                              clear hlt
                              generalize at_ l (t + 1) = x1 at ci hcmp
                              generalize at_ l (a) = x2 at cj hcmp
                              go_wp2_with fail
                              go_quiet ((go_at_call 78; exact Calls.quiet_of_same (hcmp.out _)))
                              replace hrow := Lib.hid (hrow.out.drewN nq)
                              replace hk := Lib.hid (hk.out.drewN nq)
                              generalize wr.drewN nq = w3 at hrow hk ⊢
                              clear hcmp ci cj
                              have ci := hrow.out.at (i) (by omega)
                              have cj := hrow.out.at (t + 1) (by omega)
                              have fi := hrow.out.free (i)
                              have fj := hrow.out.free (t + 1)
                              have hsw := Lib.hid (fun (W : World) (h : Row W g l rest) => h.swapW (i) (t + 1) (by omega) (by omega))
                              have hh := Lib.hid (hst.out.swap hai hsm hjb (by omega) h1.out h2.out).2
                              have hlt3 := (hst.out.swap hai hsm hjb (by omega) h1.out h2.out).1
                              have hne : i ≠ t + 1 := by omega
                              clear h1 h2 hst
                              generalize swp l (i) (t + 1) = ls2 at hsw hh
                              generalize at_ l (i) = x1 at ci hsw
                              generalize at_ l (t + 1) = x2 at cj hsw
                              go_wp2_with fail
                              go_region
                              replace hrow := Lib.hid (hsw.out _ hrow.out)
                              replace hk := Lib.hid (hk.out.swapW (i) (t + 1) (.int .u64 x2) (.int .u64 x1))
                              clear hsw ci cj fi fj
                              generalize ((w3.setCell ⟨g, i, none⟩ (.int .u64 (x2 : Nat))).setCell ⟨g, t + 1, none⟩ (.int .u64 (x1 : Nat))).drew = w4 at hrow hk ⊢
                              go_wp2_with fail
                              go_roundw
                              case rel => exact ⟨i + 1, t, ls2, by go_num, by go_num, by omega, by omega, by omega, by omega, hrow, hh, hk⟩
                              case measure => simp [intOf] <;> omega
                            · have hst2 := Lib.hid (hst.out.down hlt)
                              clear hst
                              rw [decide_eq_false hlt] at hcmp
                              clear hlt
                              generalize at_ l (t + 1) = x1 at ci hcmp
                              generalize at_ l (a) = x2 at cj hcmp
                              go_wp2_with fail
                              go_quiet ((go_at_call 78; exact Calls.quiet_of_same (hcmp.out _)))
                              replace hrow := Lib.hid (hrow.out.drewN nq)
                              replace hk := Lib.hid (hk.out.drewN nq)
                              generalize wr.drewN nq = w3 at hrow hk ⊢
                              clear hcmp ci cj
                              go_wp2_with fail
                              go_roundw
                              case rel => exact ⟨t, by go_num, by omega, by omega, by omega, by omega, hrow, hst2, hk⟩
                              case measure => simp [intOf] <;> omega
                          · have hd : decide ((i : Int) ≤ (j : Int)) = false := by simp; omega
                            go_wp2_with fail
                            go_quiet (fail)
                            replace hrow := Lib.hid (hrow.out.drewN nq)
                            replace hk := Lib.hid (hk.out.drewN nq)
                            generalize wr.drewN nq = w3 at hrow hk ⊢
                            have hll := hst.out.turned.len
                            have hb1 : (j : Int) < (l0.length : Int) := by omega
                            have hb2 : (a : Int) < (l0.length : Int) := by omega
                            by_cases heq : j = a
                            · obtain rfl : j = a := heq
                              have ci := hrow.out.at (j) (by omega)
                              have fi := hrow.out.free (j)
                              have hsw := Lib.hid (fun (W : World) (h : Row W g l rest) => h.swapW (j) (j) (by omega) (by omega))
                              have hh := Lib.hid (hst.out.done (by omega) haj hjb (by omega))
                              clear hst
                              generalize swp l (j) (j) = lsf at hsw hh
                              generalize at_ l (j) = x1 at ci hsw
                              go_wp2_with fail
                              go_region
                              replace hrow := Lib.hid (hsw.out _ hrow.out)
                              replace hk := Lib.hid (hk.out.swapW (j) (j) (.int .u64 x1) (.int .u64 x1))
                              clear hsw ci fi
                              generalize ((w3.setCell ⟨g, j, none⟩ (.int .u64 (x1 : Nat))).setCell ⟨g, j, none⟩ (.int .u64 (x1 : Nat))).drew = w9 at hrow hk ⊢
                              go_wp2_with fail
                              go_ret2
                              exact ⟨j, false, lsf, rfl, haj, hjb, hrow, hh, hk⟩
                            · have ci := hrow.out.at (j) (by omega)
                              have cj := hrow.out.at (a) (by omega)
                              have fi := hrow.out.free (j)
                              have fj := hrow.out.free (a)
                              have hsw := Lib.hid (fun (W : World) (h : Row W g l rest) => h.swapW (j) (a) (by omega) (by omega))
                              have hh := Lib.hid (hst.out.done (by omega) haj hjb (by omega))
                              clear hst
                              generalize swp l (j) (a) = lsf at hsw hh
                              generalize at_ l (j) = x1 at ci hsw
                              generalize at_ l (a) = x2 at cj hsw
                              go_wp2_with fail
                              go_region
                              replace hrow := Lib.hid (hsw.out _ hrow.out)
                              replace hk := Lib.hid (hk.out.swapW (j) (a) (.int .u64 x2) (.int .u64 x1))
                              clear hsw ci cj fi fj
                              generalize ((w3.setCell ⟨g, j, none⟩ (.int .u64 (x2 : Nat))).setCell ⟨g, a, none⟩ (.int .u64 (x1 : Nat))).drew = w9 at hrow hk ⊢
                              go_wp2_with fail
                              go_ret2
                              exact ⟨j, false, lsf, rfl, haj, hjb, hrow, hh, hk⟩
                    · have hd : decide ((i : Int) ≤ (j0 : Int)) = false := by simp; omega
                      go_wp2_with fail
                      go_quiet (fail)
                      replace hrow := Lib.hid (hrow.out.drewN nq)
                      replace hk := Lib.hid (hk.out.drewN nq)
                      generalize wr.drewN nq = w2 at hrow hk ⊢
                      go_wp2_with fail
                      go_loopw [11] (fun vj wr => vj = .int .i64 j0 ∧ Hid (Row wr g l rest) ∧ Hid (Kept1 W0 g wr)) (fun _ _ => 0)
                      case atStart => exact ⟨by first | rfl | go_num, hrow, hk⟩
                      case round =>
                        clear hrow hk
                        obtain ⟨rfl, hrow, hk⟩ := hrel
                        obtain ⟨j, rfl⟩ : ∃ j, j = j0 := ⟨_, rfl⟩
                        have haj : a ≤ j := by omega
                        go_wp2_with fail
                        go_quiet (fail)
                        replace hrow := Lib.hid (hrow.out.drewN nq)
                        replace hk := Lib.hid (hk.out.drewN nq)
                        generalize wr.drewN nq = w3 at hrow hk ⊢
                        have hll := hst.out.turned.len
                        have hb1 : (j : Int) < (l0.length : Int) := by omega
                        have hb2 : (a : Int) < (l0.length : Int) := by omega
                        by_cases heq : j = a
                        · obtain rfl : j = a := heq
                          have ci := hrow.out.at (j) (by omega)
                          have fi := hrow.out.free (j)
                          have hsw := Lib.hid (fun (W : World) (h : Row W g l rest) => h.swapW (j) (j) (by omega) (by omega))
                          have hh := Lib.hid (hst.out.done (by omega) haj hjb (by omega))
                          clear hst
                          generalize swp l (j) (j) = lsf at hsw hh
                          generalize at_ l (j) = x1 at ci hsw
                          go_wp2_with fail
                          go_region
                          replace hrow := Lib.hid (hsw.out _ hrow.out)
                          replace hk := Lib.hid (hk.out.swapW (j) (j) (.int .u64 x1) (.int .u64 x1))
                          clear hsw ci fi
                          generalize ((w3.setCell ⟨g, j, none⟩ (.int .u64 (x1 : Nat))).setCell ⟨g, j, none⟩ (.int .u64 (x1 : Nat))).drew = w9 at hrow hk ⊢
                          go_wp2_with fail
                          go_ret2
                          exact ⟨j, false, lsf, rfl, haj, hjb, hrow, hh, hk⟩
                        · have ci := hrow.out.at (j) (by omega)
                          have cj := hrow.out.at (a) (by omega)
                          have fi := hrow.out.free (j)
                          have fj := hrow.out.free (a)
                          have hsw := Lib.hid (fun (W : World) (h : Row W g l rest) => h.swapW (j) (a) (by omega) (by omega))
                          have hh := Lib.hid (hst.out.done (by omega) haj hjb (by omega))
                          clear hst
                          generalize swp l (j) (a) = lsf at hsw hh
                          generalize at_ l (j) = x1 at ci hsw
                          generalize at_ l (a) = x2 at cj hsw
                          go_wp2_with fail
                          go_region
                          replace hrow := Lib.hid (hsw.out _ hrow.out)
                          replace hk := Lib.hid (hk.out.swapW (j) (a) (.int .u64 x2) (.int .u64 x1))
                          clear hsw ci cj fi fj
                          generalize ((w3.setCell ⟨g, j, none⟩ (.int .u64 (x2 : Nat))).setCell ⟨g, a, none⟩ (.int .u64 (x1 : Nat))).drew = w9 at hrow hk ⊢
                          go_wp2_with fail
                          go_ret2
                          exact ⟨j, false, lsf, rfl, haj, hjb, hrow, hh, hk⟩
              · have hst2 := Lib.hid (hst.out.down hlt)
                clear hst
                rw [decide_eq_false hlt] at hcmp
                clear hlt
                generalize at_ l (t + 1) = x1 at ci hcmp
                generalize at_ l (a) = x2 at cj hcmp
                go_wp2_with fail
                go_quiet ((go_at_call 78; exact Calls.quiet_of_same (hcmp.out _)))
                replace hrow := Lib.hid (hrow.out.drewN nq)
                replace hk := Lib.hid (hk.out.drewN nq)
                generalize wr.drewN nq = w3 at hrow hk ⊢
                clear hcmp ci cj
                go_wp2_with fail
                go_roundw
                case rel => exact ⟨t, by go_num, by omega, by omega, by omega, by omega, hrow, hst2, hk⟩
                case measure => simp [intOf] <;> omega
            · have hd : decide ((i : Int) ≤ (j : Int)) = false := by simp; omega
              go_wp2_with fail
              go_quiet (fail)
              replace hrow := Lib.hid (hrow.out.drewN nq)
              replace hk := Lib.hid (hk.out.drewN nq)
              generalize wr.drewN nq = w3 at hrow hk ⊢
              have hll := hst.out.turned.len
              have hb1 : (j : Int) < (l0.length : Int) := by omega
              have hb2 : (a : Int) < (l0.length : Int) := by omega
              by_cases heq : j = a
              · obtain rfl : j = a := heq
                have ci := hrow.out.at (j) (by omega)
                have fi := hrow.out.free (j)
                have hsw := Lib.hid (fun (W : World) (h : Row W g l rest) => h.swapW (j) (j) (by omega) (by omega))
                have hh := Lib.hid (hst.out.done (by omega) haj hjb (by omega))
                clear hst
                generalize swp l (j) (j) = lsf at hsw hh
                generalize at_ l (j) = x1 at ci hsw
                go_wp2_with fail
                go_region
                replace hrow := Lib.hid (hsw.out _ hrow.out)
                replace hk := Lib.hid (hk.out.swapW (j) (j) (.int .u64 x1) (.int .u64 x1))
                clear hsw ci fi
                generalize ((w3.setCell ⟨g, j, none⟩ (.int .u64 (x1 : Nat))).setCell ⟨g, j, none⟩ (.int .u64 (x1 : Nat))).drew = w9 at hrow hk ⊢
                go_wp2_with fail
                go_ret2
                exact ⟨j, true, lsf, rfl, haj, hjb, hrow, hh, hk⟩
              · have ci := hrow.out.at (j) (by omega)
                have cj := hrow.out.at (a) (by omega)
                have fi := hrow.out.free (j)
                have fj := hrow.out.free (a)
                have hsw := Lib.hid (fun (W : World) (h : Row W g l rest) => h.swapW (j) (a) (by omega) (by omega))
                have hh := Lib.hid (hst.out.done (by omega) haj hjb (by omega))
                clear hst
                generalize swp l (j) (a) = lsf at hsw hh
                generalize at_ l (j) = x1 at ci hsw
                generalize at_ l (a) = x2 at cj hsw
                go_wp2_with fail
                go_region
                replace hrow := Lib.hid (hsw.out _ hrow.out)
                replace hk := Lib.hid (hk.out.swapW (j) (a) (.int .u64 x2) (.int .u64 x1))
                clear hsw ci cj fi fj
                generalize ((w3.setCell ⟨g, j, none⟩ (.int .u64 (x2 : Nat))).setCell ⟨g, a, none⟩ (.int .u64 (x1 : Nat))).drew = w9 at hrow hk ⊢
                go_wp2_with fail
                go_ret2
                exact ⟨j, true, lsf, rfl, haj, hjb, hrow, hh, hk⟩
      · have hd : decide ((i : Int) ≤ (j0 : Int)) = false := by simp; omega
        go_wp2_with fail
        go_quiet (fail)
        replace hrow := Lib.hid (hrow.out.drewN nq)
        replace hk := Lib.hid (hk.out.drewN nq)
        generalize wr.drewN nq = w2 at hrow hk ⊢
        go_wp2_with fail
        go_loopw [11] (fun vj wr => vj = .int .i64 j0 ∧ Hid (Row wr g l rest) ∧ Hid (Kept1 W0 g wr)) (fun _ _ => 0)
        case atStart => exact ⟨by first | rfl | go_num, hrow, hk⟩
        case round =>
          clear hrow hk
          obtain ⟨rfl, hrow, hk⟩ := hrel
          obtain ⟨j, rfl⟩ : ∃ j, j = j0 := ⟨_, rfl⟩
          have haj : a ≤ j := by omega
          go_wp2_with fail
          go_quiet (fail)
          replace hrow := Lib.hid (hrow.out.drewN nq)
          replace hk := Lib.hid (hk.out.drewN nq)
          generalize wr.drewN nq = w3 at hrow hk ⊢
          have hll := hst.out.turned.len
          have hb1 : (j : Int) < (l0.length : Int) := by omega
          have hb2 : (a : Int) < (l0.length : Int) := by omega
          by_cases heq : j = a
          · obtain rfl : j = a := heq
            have ci := hrow.out.at (j) (by omega)
            have fi := hrow.out.free (j)
            have hsw := Lib.hid (fun (W : World) (h : Row W g l rest) => h.swapW (j) (j) (by omega) (by omega))
            have hh := Lib.hid (hst.out.done (by omega) haj hjb (by omega))
            clear hst
            generalize swp l (j) (j) = lsf at hsw hh
            generalize at_ l (j) = x1 at ci hsw
            go_wp2_with fail
            go_region
            replace hrow := Lib.hid (hsw.out _ hrow.out)
            replace hk := Lib.hid (hk.out.swapW (j) (j) (.int .u64 x1) (.int .u64 x1))
            clear hsw ci fi
            generalize ((w3.setCell ⟨g, j, none⟩ (.int .u64 (x1 : Nat))).setCell ⟨g, j, none⟩ (.int .u64 (x1 : Nat))).drew = w9 at hrow hk ⊢
            go_wp2_with fail
            go_ret2
            exact ⟨j, true, lsf, rfl, haj, hjb, hrow, hh, hk⟩
          · have ci := hrow.out.at (j) (by omega)
            have cj := hrow.out.at (a) (by omega)
            have fi := hrow.out.free (j)
            have fj := hrow.out.free (a)
            have hsw := Lib.hid (fun (W : World) (h : Row W g l rest) => h.swapW (j) (a) (by omega) (by omega))
            have hh := Lib.hid (hst.out.done (by omega) haj hjb (by omega))
            clear hst
            generalize swp l (j) (a) = lsf at hsw hh
            generalize at_ l (j) = x1 at ci hsw
            generalize at_ l (a) = x2 at cj hsw
            go_wp2_with fail
            go_region
            replace hrow := Lib.hid (hsw.out _ hrow.out)
            replace hk := Lib.hid (hk.out.swapW (j) (a) (.int .u64 x2) (.int .u64 x1))
            clear hsw ci cj fi fj
            generalize ((w3.setCell ⟨g, j, none⟩ (.int .u64 (x2 : Nat))).setCell ⟨g, a, none⟩ (.int .u64 (x1 : Nat))).drew = w9 at hrow hk ⊢
            go_wp2_with fail
            go_ret2
            exact ⟨j, true, lsf, rfl, haj, hjb, hrow, hh, hk⟩
  · have ci := hrow.out.at (a) (by omega)
    have cj := hrow.out.at (p) (by omega)
    have fi := hrow.out.free (a)
    have fj := hrow.out.free (p)
    have hsw := Lib.hid (fun (W : World) (h : Row W g l rest) => h.swapW (a) (p) (by omega) (by omega))
    have hh := hst1
    clear hst1
    generalize swp l (a) (p) = ls1 at hsw hh
    generalize at_ l (a) = x1 at ci hsw
    generalize at_ l (p) = x2 at cj hsw
    go_wp2_with fail
    go_region
    replace hrow := Lib.hid (hsw.out _ hrow.out)
    replace hk := Lib.hid (hk.out.swapW (a) (p) (.int .u64 x2) (.int .u64 x1))
    clear hsw ci cj fi fj
    generalize ((W0.setCell ⟨g, a, none⟩ (.int .u64 (x2 : Nat))).setCell ⟨g, p, none⟩ (.int .u64 (x1 : Nat))).drew = w1 at hrow hk ⊢
    have hij : a + 1 ≤ b - 1 + 1 := by omega
    have hai : a < a + 1 := Nat.lt_succ_self a
    have hjb : b - 1 < b := by omega
    have haj : a ≤ b - 1 := by omega
    obtain ⟨i0, hi⟩ : ∃ i0, i0 = a + 1 := ⟨_, rfl⟩
    obtain ⟨j0, hj⟩ : ∃ j0, j0 = b - 1 := ⟨_, rfl⟩
    rw [← hi, ← hj] at hh
    rw [← hi] at hai
    rw [← hi, ← hj] at hij
    rw [← hj] at hjb haj
    have hei : (a : Int) + 1 = (i0 : Int) := by omega
    have hej : (b : Int) - 1 = (j0 : Int) := by omega
    clear hi hj
    have hst := hh
    clear hh
    obtain ⟨l, hl⟩ : ∃ l, ls1 = l := ⟨_, rfl⟩
    rw [hl] at hrow hst
    clear hl ls1
    go_wp2_with fail
    go_loopw [10] (fun vi wr => ∃ (i : Nat), vi = .int .i64 i ∧ i0 ≤ i ∧ a < i ∧ i ≤ j0 + 1 ∧ Hid (Row wr g l rest) ∧ Hid (PSt l0 l a b i j0) ∧ Hid (Kept1 W0 g wr)) (fun vi _ => b - (intOf vi).toNat)
    case atStart => exact ⟨i0, by first | rfl | go_num, Nat.le_refl _, by omega, by omega, hrow, hst, hk⟩
    case round =>
      clear hrow hst hk hai hij hei hej
      obtain ⟨i, rfl, hii, hai, hij, hrow, hst, hk⟩ := hrel
      have hll := hst.out.turned.len
      by_cases hsm : i ≤ j0
      · have hd : decide ((i : Int) ≤ (j0 : Int)) = true := by simp; omega
        have hb1 : (i : Int) < (l0.length : Int) := by omega
        have hb2 : (a : Int) < (l0.length : Int) := by omega
        have ci := hrow.out.at (i) (by omega)
        have cj := hrow.out.at (a) (by omega)
        have hcmp := Lib.hid (fun n => hle.out (at_ l (i)) (at_ l (a)) (wr.drewN n))
        by_cases hlt : at_ l (i) < at_ l (a)
        · have hst2 := Lib.hid (hst.out.up hlt)
          clear hst
          rw [decide_eq_true hlt] at hcmp
          clear hlt
          generalize at_ l (i) = x1 at ci hcmp
          generalize at_ l (a) = x2 at cj hcmp
          go_wp2_with fail
          go_quiet ((go_at_call 78; exact Calls.quiet_of_same (hcmp.out _)))
          replace hrow := Lib.hid (hrow.out.drewN nq)
          replace hk := Lib.hid (hk.out.drewN nq)
          generalize wr.drewN nq = w2 at hrow hk ⊢
          clear hcmp ci cj
          go_wp2_with fail
          go_roundw
          case rel => exact ⟨i + 1, by go_num, by omega, by omega, by omega, hrow, hst2, hk⟩
          case measure => simp [intOf] <;> omega
        · have h1 := Lib.hid hlt
          rw [decide_eq_false hlt] at hcmp
          clear hlt
          generalize at_ l (i) = x1 at ci hcmp
          generalize at_ l (a) = x2 at cj hcmp
          go_wp2_with fail
          go_quiet ((go_at_call 78; exact Calls.quiet_of_same (hcmp.out _)))
          replace hrow := Lib.hid (hrow.out.drewN nq)
          replace hk := Lib.hid (hk.out.drewN nq)
          generalize wr.drewN nq = w2 at hrow hk ⊢
          clear hcmp ci cj
          go_wp2_with fail
          go_loopw [11] (fun vj wr => ∃ (j : Nat), vj = .int .i64 j ∧ j ≤ j0 ∧ i ≤ j + 1 ∧ j < b ∧ a ≤ j ∧ Hid (Row wr g l rest) ∧ Hid (PSt l0 l a b i j) ∧ Hid (Kept1 W0 g wr)) (fun vj _ => (intOf vj).toNat)
          case atStart => exact ⟨j0, by first | rfl | go_num, Nat.le_refl _, by omega, by omega, by omega, hrow, hst, hk⟩
          case round =>
            clear hrow hst hk hij hjb hsm
            obtain ⟨j, rfl, hjj, hij, hjb, haj, hrow, hst, hk⟩ := hrel
            have hll := hst.out.turned.len
            by_cases hsm : i ≤ j
            · obtain ⟨t, rfl⟩ : ∃ t, j = t + 1 := ⟨j - 1, by omega⟩
              have hd : decide ((i : Int) ≤ (t : Int) + 1) = true := by simp; omega
              have hb1 : (t : Int) + 1 < (l0.length : Int) := by omega
              have hb2 : (a : Int) < (l0.length : Int) := by omega
              have ci := hrow.out.at (t + 1) (by omega)
              have cj := hrow.out.at (a) (by omega)
              have hcmp := Lib.hid (fun n => hle.out (at_ l (t + 1)) (at_ l (a)) (wr.drewN n))
              by_cases hlt : at_ l (t + 1) < at_ l (a)
              · have h2 := Lib.hid hlt
                rw [decide_eq_true hlt] at hcmp
                clear hlt
                generalize at_ l (t + 1) = x1 at ci hcmp
                generalize at_ l (a) = x2 at cj hcmp
                go_wp2_with fail
                go_quiet ((go_at_call 78; exact Calls.quiet_of_same (hcmp.out _)))
                replace hrow := Lib.hid (hrow.out.drewN nq)
                replace hk := Lib.hid (hk.out.drewN nq)
                generalize wr.drewN nq = w3 at hrow hk ⊢
                clear hcmp ci cj
                have ci := hrow.out.at (i) (by omega)
                have cj := hrow.out.at (t + 1) (by omega)
                have fi := hrow.out.free (i)
                have fj := hrow.out.free (t + 1)
                have hsw := Lib.hid (fun (W : World) (h : Row W g l rest) => h.swapW (i) (t + 1) (by omega) (by omega))
                have hh := Lib.hid (hst.out.swap hai hsm hjb (by omega) h1.out h2.out).2
                have hlt3 := (hst.out.swap hai hsm hjb (by omega) h1.out h2.out).1
                have hne : i ≠ t + 1 := by omega
                clear h1 h2 hst
                generalize swp l (i) (t + 1) = ls2 at hsw hh
                generalize at_ l (i) = x1 at ci hsw
                generalize at_ l (t + 1) = x2 at cj hsw
                go_wp2_with fail
                go_region
                replace hrow := Lib.hid (hsw.out _ hrow.out)
                replace hk := Lib.hid (hk.out.swapW (i) (t + 1) (.int .u64 x2) (.int .u64 x1))
                clear hsw ci cj fi fj
                generalize ((w3.setCell ⟨g, i, none⟩ (.int .u64 (x2 : Nat))).setCell ⟨g, t + 1, none⟩ (.int .u64 (x1 : Nat))).drew = w4 at hrow hk ⊢
                go_wp2_with fail
                go_loopw [10, 11] (fun v10 v11 wr => ∃ (i j : Nat) (l : List Nat), v10 = .int .i64 i ∧ v11 = .int .i64 j ∧ a < i ∧ i ≤ j + 1 ∧ j < b ∧ a ≤ j ∧ Hid (Row wr g l rest) ∧ Hid (PSt l0 l a b i j) ∧ Hid (Kept1 W0 g wr)) (fun v10 v11 _ => (intOf v11 + 1 - intOf v10).toNat)
                case atStart => exact ⟨i + 1, t, ls2, by go_num, by go_num, by omega, by omega, by omega, by omega, hrow, hh, hk⟩
                case round =>
                  clear hrow hh hk hai hij hjb hsm haj hlt3 hne
                  obtain ⟨i0, j0, l, rfl, rfl, hai, hij, hjb, haj, hrow, hst, hk⟩ := hrel
                  go_wp2_with fail
                  go_loopw [10] (fun vi wr => ∃ (i : Nat), vi = .int .i64 i ∧ i0 ≤ i ∧ a < i ∧ i ≤ j0 + 1 ∧ Hid (Row wr g l rest) ∧ Hid (PSt l0 l a b i j0) ∧ Hid (Kept1 W0 g wr)) (fun vi _ => b - (intOf vi).toNat)
                  case atStart => exact ⟨i0, by first | rfl | go_num, Nat.le_refl _, by omega, by omega, hrow, hst, hk⟩
                  case round =>
                    clear hrow hst hk hai hij
                    obtain ⟨i, rfl, hii, hai, hij, hrow, hst, hk⟩ := hrel
                    have hll := hst.out.turned.len
                    by_cases hsm : i ≤ j0
                    · have hd : decide ((i : Int) ≤ (j0 : Int)) = true := by simp; omega
                      have hb1 : (i : Int) < (l0.length : Int) := by omega
                      have hb2 : (a : Int) < (l0.length : Int) := by omega
                      have ci := hrow.out.at (i) (by omega)
                      have cj := hrow.out.at (a) (by omega)
                      have hcmp := Lib.hid (fun n => hle.out (at_ l (i)) (at_ l (a)) (wr.drewN n))
                      by_cases hlt : at_ l (i) < at_ l (a)
                      · have hst2 := Lib.hid (hst.out.up hlt)
                        clear hst
                        rw [decide_eq_true hlt] at hcmp
                        clear hlt
                        generalize at_ l (i) = x1 at ci hcmp
                        generalize at_ l (a) = x2 at cj hcmp
                        go_wp2_with fail
                        go_quiet ((go_at_call 78; exact Calls.quiet_of_same (hcmp.out _)))
                        replace hrow := Lib.hid (hrow.out.drewN nq)
                        replace hk := Lib.hid (hk.out.drewN nq)
                        generalize wr.drewN nq = w2 at hrow hk ⊢
                        clear hcmp ci cj
                        go_wp2_with fail
                        go_roundw
                        case rel => exact ⟨i + 1, by go_num, by omega, by omega, by omega, hrow, hst2, hk⟩
                        case measure => simp [intOf] <;> omega
                      · have h1 := Lib.hid hlt
                        rw [decide_eq_false hlt] at hcmp
                        clear hlt
                        generalize at_ l (i) = x1 at ci hcmp
                        generalize at_ l (a) = x2 at cj hcmp
                        go_wp2_with fail
                        go_quiet ((go_at_call 78; exact Calls.quiet_of_same (hcmp.out _)))
                        replace hrow := Lib.hid (hrow.out.drewN nq)
                        replace hk := Lib.hid (hk.out.drewN nq)
                        generalize wr.drewN nq = w2 at hrow hk ⊢
                        clear hcmp ci cj
                        go_wp2_with fail
                        go_loopw [11] (fun vj wr => ∃ (j : Nat), vj = .int .i64 j ∧ j ≤ j0 ∧ i ≤ j + 1 ∧ j < b ∧ a ≤ j ∧ Hid (Row wr g l rest) ∧ Hid (PSt l0 l a b i j) ∧ Hid (Kept1 W0 g wr)) (fun vj _ => (intOf vj).toNat)
                        case atStart => exact ⟨j0, by first | rfl | go_num, Nat.le_refl _, by omega, by omega, by omega, hrow, hst, hk⟩
                        case round =>
                          clear hrow hst hk hij hjb hsm
                          obtain ⟨j, rfl, hjj, hij, hjb, haj, hrow, hst, hk⟩ := hrel
                          have hll := hst.out.turned.len
                          by_cases hsm : i ≤ j
                          · obtain ⟨t, rfl⟩ : ∃ t, j = t + 1 := ⟨j - 1, by omega⟩
                            have hd : decide ((i : Int) ≤ (t : Int) + 1) = true := by simp; omega
                            have hb1 : (t : Int) + 1 < (l0.length : Int) := by omega
                            have hb2 : (a : Int) < (l0.length : Int) := by omega
                            have ci := hrow.out.at (t + 1) (by omega)
                            have cj := hrow.out.at (a) (by omega)
                            have hcmp := Lib.hid (fun n => hle.out (at_ l (t + 1)) (at_ l (a)) (wr.drewN n))
                            by_cases hlt : at_ l (t + 1) < at_ l (a)
                            · have h2 := Lib.hid hlt
                              rw [decide_eq_true hlt] at hcmp
                              clear hlt
                              generalize at_ l (t + 1) = x1 at ci hcmp
                              generalize at_ l (a) = x2 at cj hcmp
                              go_wp2_with fail
                              go_quiet ((go_at_call 78; exact Calls.quiet_of_same (hcmp.out _)))
                              replace hrow := Lib.hid (hrow.out.drewN nq)
                              replace hk := Lib.hid (hk.out.drewN nq)
                              generalize wr.drewN nq = w3 at hrow hk ⊢
                              clear hcmp ci cj
                              have ci := hrow.out.at (i) (by omega)
                              have cj := hrow.out.at (t + 1) (by omega)
                              have fi := hrow.out.free (i)
                              have fj := hrow.out.free (t + 1)
                              have hsw := Lib.hid (fun (W : World) (h : Row W g l rest) => h.swapW (i) (t + 1) (by omega) (by omega))
                              have hh := Lib.hid (hst.out.swap hai hsm hjb (by omega) h1.out h2.out).2
                              have hlt3 := (hst.out.swap hai hsm hjb (by omega) h1.out h2.out).1
                              have hne : i ≠ t + 1 := by omega
                              clear h1 h2 hst
                              generalize swp l (i) (t + 1) = ls2 at hsw hh
                              generalize at_ l (i) = x1 at ci hsw
                              generalize at_ l (t + 1) = x2 at cj hsw
                              go_wp2_with fail
                              go_region
                              replace hrow := Lib.hid (hsw.out _ hrow.out)
                              replace hk := Lib.hid (hk.out.swapW (i) (t + 1) (.int .u64 x2) (.int .u64 x1))
                              clear hsw ci cj fi fj
                              generalize ((w3.setCell ⟨g, i, none⟩ (.int .u64 (x2 : Nat))).setCell ⟨g, t + 1, none⟩ (.int .u64 (x1 : Nat))).drew = w4 at hrow hk ⊢
                              go_wp2_with fail
                              go_roundw
                              case rel => exact ⟨i + 1, t, ls2, by go_num, by go_num, by omega, by omega, by omega, by omega, hrow, hh, hk⟩
                              case measure => simp [intOf] <;> omega
                            · have hst2 := Lib.hid (hst.out.down hlt)
                              clear hst
                              rw [decide_eq_false hlt] at hcmp
                              clear hlt
                              generalize at_ l (t + 1) = x1 at ci hcmp
                              generalize at_ l (a) = x2 at cj hcmp
                              go_wp2_with fail
                              go_quiet ((go_at_call 78; exact Calls.quiet_of_same (hcmp.out _)))
                              replace hrow := Lib.hid (hrow.out.drewN nq)
                              replace hk := Lib.hid (hk.out.drewN nq)
                              generalize wr.drewN nq = w3 at hrow hk ⊢
                              clear hcmp ci cj
                              go_wp2_with fail
                              go_roundw
                              case rel => exact ⟨t, by go_num, by omega, by omega, by omega, by omega, hrow, hst2, hk⟩
                              case measure => simp [intOf] <;> omega
                          · have hd : decide ((i : Int) ≤ (j : Int)) = false := by simp; omega
                            go_wp2_with fail
                            go_quiet (fail)
                            replace hrow := Lib.hid (hrow.out.drewN nq)
                            replace hk := Lib.hid (hk.out.drewN nq)
                            generalize wr.drewN nq = w3 at hrow hk ⊢
                            have hll := hst.out.turned.len
                            have hb1 : (j : Int) < (l0.length : Int) := by omega
                            have hb2 : (a : Int) < (l0.length : Int) := by omega
                            by_cases heq : j = a
                            · obtain rfl : j = a := heq
                              have ci := hrow.out.at (j) (by omega)
                              have fi := hrow.out.free (j)
                              have hsw := Lib.hid (fun (W : World) (h : Row W g l rest) => h.swapW (j) (j) (by omega) (by omega))
                              have hh := Lib.hid (hst.out.done (by omega) haj hjb (by omega))
                              clear hst
                              generalize swp l (j) (j) = lsf at hsw hh
                              generalize at_ l (j) = x1 at ci hsw
                              go_wp2_with fail
                              go_region
                              replace hrow := Lib.hid (hsw.out _ hrow.out)
                              replace hk := Lib.hid (hk.out.swapW (j) (j) (.int .u64 x1) (.int .u64 x1))
                              clear hsw ci fi
                              generalize ((w3.setCell ⟨g, j, none⟩ (.int .u64 (x1 : Nat))).setCell ⟨g, j, none⟩ (.int .u64 (x1 : Nat))).drew = w9 at hrow hk ⊢
                              go_wp2_with fail
                              go_ret2
                              exact ⟨j, false, lsf, rfl, haj, hjb, hrow, hh, hk⟩
                            · have ci := hrow.out.at (j) (by omega)
                              have cj := hrow.out.at (a) (by omega)
                              have fi := hrow.out.free (j)
                              have fj := hrow.out.free (a)
                              have hsw := Lib.hid (fun (W : World) (h : Row W g l rest) => h.swapW (j) (a) (by omega) (by omega))
                              have hh := Lib.hid (hst.out.done (by omega) haj hjb (by omega))
                              clear hst
                              generalize swp l (j) (a) = lsf at hsw hh
                              generalize at_ l (j) = x1 at ci hsw
                              generalize at_ l (a) = x2 at cj hsw
                              go_wp2_with fail
                              go_region
                              replace hrow := Lib.hid (hsw.out _ hrow.out)
                              replace hk := Lib.hid (hk.out.swapW (j) (a) (.int .u64 x2) (.int .u64 x1))
                              clear hsw ci cj fi fj
                              generalize ((w3.setCell ⟨g, j, none⟩ (.int .u64 (x2 : Nat))).setCell ⟨g, a, none⟩ (.int .u64 (x1 : Nat))).drew = w9 at hrow hk ⊢
                              go_wp2_with fail
                              go_ret2
                              exact ⟨j, false, lsf, rfl, haj, hjb, hrow, hh, hk⟩
                    · have hd : decide ((i : Int) ≤ (j0 : Int)) = false := by simp; omega
                      go_wp2_with fail
                      go_quiet (fail)
                      replace hrow := Lib.hid (hrow.out.drewN nq)
                      replace hk := Lib.hid (hk.out.drewN nq)
                      generalize wr.drewN nq = w2 at hrow hk ⊢
                      go_wp2_with fail
                      go_loopw [11] (fun vj wr => vj = .int .i64 j0 ∧ Hid (Row wr g l rest) ∧ Hid (Kept1 W0 g wr)) (fun _ _ => 0)
                      case atStart => exact ⟨by first | rfl | go_num, hrow, hk⟩
                      case round =>
                        clear hrow hk
                        obtain ⟨rfl, hrow, hk⟩ := hrel
                        obtain ⟨j, rfl⟩ : ∃ j, j = j0 := ⟨_, rfl⟩
                        have haj : a ≤ j := by omega
                        go_wp2_with fail
                        go_quiet (fail)
                        replace hrow := Lib.hid (hrow.out.drewN nq)
                        replace hk := Lib.hid (hk.out.drewN nq)
                        generalize wr.drewN nq = w3 at hrow hk ⊢
                        have hll := hst.out.turned.len
                        have hb1 : (j : Int) < (l0.length : Int) := by omega
                        have hb2 : (a : Int) < (l0.length : Int) := by omega
                        by_cases heq : j = a
                        · obtain rfl : j = a := heq
                          have ci := hrow.out.at (j) (by omega)
                          have fi := hrow.out.free (j)
                          have hsw := Lib.hid (fun (W : World) (h : Row W g l rest) => h.swapW (j) (j) (by omega) (by omega))
                          have hh := Lib.hid (hst.out.done (by omega) haj hjb (by omega))
                          clear hst
                          generalize swp l (j) (j) = lsf at hsw hh
                          generalize at_ l (j) = x1 at ci hsw
                          go_wp2_with fail
                          go_region
                          replace hrow := Lib.hid (hsw.out _ hrow.out)
                          replace hk := Lib.hid (hk.out.swapW (j) (j) (.int .u64 x1) (.int .u64 x1))
                          clear hsw ci fi
                          generalize ((w3.setCell ⟨g, j, none⟩ (.int .u64 (x1 : Nat))).setCell ⟨g, j, none⟩ (.int .u64 (x1 : Nat))).drew = w9 at hrow hk ⊢
                          go_wp2_with fail
                          go_ret2
                          exact ⟨j, false, lsf, rfl, haj, hjb, hrow, hh, hk⟩
                        · have ci := hrow.out.at (j) (by omega)
                          have cj := hrow.out.at (a) (by omega)
                          have fi := hrow.out.free (j)
                          have fj := hrow.out.free (a)
                          have hsw := Lib.hid (fun (W : World) (h : Row W g l rest) => h.swapW (j) (a) (by omega) (by omega))
                          have hh := Lib.hid (hst.out.done (by omega) haj hjb (by omega))
                          clear hst
                          generalize swp l (j) (a) = lsf at hsw hh
                          generalize at_ l (j) = x1 at ci hsw
                          generalize at_ l (a) = x2 at cj hsw
                          go_wp2_with fail
                          go_region
                          replace hrow := Lib.hid (hsw.out _ hrow.out)
                          replace hk := Lib.hid (hk.out.swapW (j) (a) (.int .u64 x2) (.int .u64 x1))
                          clear hsw ci cj fi fj
                          generalize ((w3.setCell ⟨g, j, none⟩ (.int .u64 (x2 : Nat))).setCell ⟨g, a, none⟩ (.int .u64 (x1 : Nat))).drew = w9 at hrow hk ⊢
                          go_wp2_with fail
                          go_ret2
                          exact ⟨j, false, lsf, rfl, haj, hjb, hrow, hh, hk⟩
              · have hst2 := Lib.hid (hst.out.down hlt)
                clear hst
                rw [decide_eq_false hlt] at hcmp
                clear hlt
                generalize at_ l (t + 1) = x1 at ci hcmp
                generalize at_ l (a) = x2 at cj hcmp
                go_wp2_with fail
                go_quiet ((go_at_call 78; exact Calls.quiet_of_same (hcmp.out _)))
                replace hrow := Lib.hid (hrow.out.drewN nq)
                replace hk := Lib.hid (hk.out.drewN nq)
                generalize wr.drewN nq = w3 at hrow hk ⊢
                clear hcmp ci cj
                go_wp2_with fail
                go_roundw
                case rel => exact ⟨t, by go_num, by omega, by omega, by omega, by omega, hrow, hst2, hk⟩
                case measure => simp [intOf] <;> omega
            · have hd : decide ((i : Int) ≤ (j : Int)) = false := by simp; omega
              go_wp2_with fail
              go_quiet (fail)
              replace hrow := Lib.hid (hrow.out.drewN nq)
              replace hk := Lib.hid (hk.out.drewN nq)
              generalize wr.drewN nq = w3 at hrow hk ⊢
              have hll := hst.out.turned.len
              have hb1 : (j : Int) < (l0.length : Int) := by omega
              have hb2 : (a : Int) < (l0.length : Int) := by omega
              by_cases heq : j = a
              · obtain rfl : j = a := heq
                have ci := hrow.out.at (j) (by omega)
                have fi := hrow.out.free (j)
                have hsw := Lib.hid (fun (W : World) (h : Row W g l rest) => h.swapW (j) (j) (by omega) (by omega))
                have hh := Lib.hid (hst.out.done (by omega) haj hjb (by omega))
                clear hst
                generalize swp l (j) (j) = lsf at hsw hh
                generalize at_ l (j) = x1 at ci hsw
                go_wp2_with fail
                go_region
                replace hrow := Lib.hid (hsw.out _ hrow.out)
                replace hk := Lib.hid (hk.out.swapW (j) (j) (.int .u64 x1) (.int .u64 x1))
                clear hsw ci fi
                generalize ((w3.setCell ⟨g, j, none⟩ (.int .u64 (x1 : Nat))).setCell ⟨g, j, none⟩ (.int .u64 (x1 : Nat))).drew = w9 at hrow hk ⊢
                go_wp2_with fail
                go_ret2
                exact ⟨j, true, lsf, rfl, haj, hjb, hrow, hh, hk⟩
              · have ci := hrow.out.at (j) (by omega)
                have cj := hrow.out.at (a) (by omega)
                have fi := hrow.out.free (j)
                have fj := hrow.out.free (a)
                have hsw := Lib.hid (fun (W : World) (h : Row W g l rest) => h.swapW (j) (a) (by omega) (by omega))
                have hh := Lib.hid (hst.out.done (by omega) haj hjb (by omega))
                clear hst
                generalize swp l (j) (a) = lsf at hsw hh
                generalize at_ l (j) = x1 at ci hsw
                generalize at_ l (a) = x2 at cj hsw
                go_wp2_with fail
                go_region
                replace hrow := Lib.hid (hsw.out _ hrow.out)
                replace hk := Lib.hid (hk.out.swapW (j) (a) (.int .u64 x2) (.int .u64 x1))
                clear hsw ci cj fi fj
                generalize ((w3.setCell ⟨g, j, none⟩ (.int .u64 (x2 : Nat))).setCell ⟨g, a, none⟩ (.int .u64 (x1 : Nat))).drew = w9 at hrow hk ⊢
                go_wp2_with fail
                go_ret2
                exact ⟨j, true, lsf, rfl, haj, hjb, hrow, hh, hk⟩
      · have hd : decide ((i : Int) ≤ (j0 : Int)) = false := by simp; omega
        go_wp2_with fail
        go_quiet (fail)
        replace hrow := Lib.hid (hrow.out.drewN nq)
        replace hk := Lib.hid (hk.out.drewN nq)
        generalize wr.drewN nq = w2 at hrow hk ⊢
        go_wp2_with fail
        go_loopw [11] (fun vj wr => vj = .int .i64 j0 ∧ Hid (Row wr g l rest) ∧ Hid (Kept1 W0 g wr)) (fun _ _ => 0)
        case atStart => exact ⟨by first | rfl | go_num, hrow, hk⟩
        case round =>
          clear hrow hk
          obtain ⟨rfl, hrow, hk⟩ := hrel
          obtain ⟨j, rfl⟩ : ∃ j, j = j0 := ⟨_, rfl⟩
          have haj : a ≤ j := by omega
          go_wp2_with fail
          go_quiet (fail)
          replace hrow := Lib.hid (hrow.out.drewN nq)
          replace hk := Lib.hid (hk.out.drewN nq)
          generalize wr.drewN nq = w3 at hrow hk ⊢
          have hll := hst.out.turned.len
          have hb1 : (j : Int) < (l0.length : Int) := by omega
          have hb2 : (a : Int) < (l0.length : Int) := by omega
          by_cases heq : j = a
          · obtain rfl : j = a := heq
            have ci := hrow.out.at (j) (by omega)
            have fi := hrow.out.free (j)
            have hsw := Lib.hid (fun (W : World) (h : Row W g l rest) => h.swapW (j) (j) (by omega) (by omega))
            have hh := Lib.hid (hst.out.done (by omega) haj hjb (by omega))
            clear hst
            generalize swp l (j) (j) = lsf at hsw hh
            generalize at_ l (j) = x1 at ci hsw
            go_wp2_with fail
            go_region
            replace hrow := Lib.hid (hsw.out _ hrow.out)
            replace hk := Lib.hid (hk.out.swapW (j) (j) (.int .u64 x1) (.int .u64 x1))
            clear hsw ci fi
            generalize ((w3.setCell ⟨g, j, none⟩ (.int .u64 (x1 : Nat))).setCell ⟨g, j, none⟩ (.int .u64 (x1 : Nat))).drew = w9 at hrow hk ⊢
            go_wp2_with fail
            go_ret2
            exact ⟨j, true, lsf, rfl, haj, hjb, hrow, hh, hk⟩
          · have ci := hrow.out.at (j) (by omega)
            have cj := hrow.out.at (a) (by omega)
            have fi := hrow.out.free (j)
            have fj := hrow.out.free (a)
            have hsw := Lib.hid (fun (W : World) (h : Row W g l rest) => h.swapW (j) (a) (by omega) (by omega))
            have hh := Lib.hid (hst.out.done (by omega) haj hjb (by omega))
            clear hst
            generalize swp l (j) (a) = lsf at hsw hh
            generalize at_ l (j) = x1 at ci hsw
            generalize at_ l (a) = x2 at cj hsw
            go_wp2_with fail
            go_region
            replace hrow := Lib.hid (hsw.out _ hrow.out)
            replace hk := Lib.hid (hk.out.swapW (j) (a) (.int .u64 x2) (.int .u64 x1))
            clear hsw ci cj fi fj
            generalize ((w3.setCell ⟨g, j, none⟩ (.int .u64 (x2 : Nat))).setCell ⟨g, a, none⟩ (.int .u64 (x1 : Nat))).drew = w9 at hrow hk ⊢
            go_wp2_with fail
            go_ret2
            exact ⟨j, true, lsf, rfl, haj, hjb, hrow, hh, hk⟩
end Go.Proofs.Ytcnebfmlelcliaa
