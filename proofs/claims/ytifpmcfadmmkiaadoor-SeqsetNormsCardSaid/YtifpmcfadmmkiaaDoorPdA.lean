/- pdqsort's parts: a swap in place; siftDown: walked. -/
import Derived.Test.YtifpmcfadmmkiaaDoorSqN
import Derived.Test.YtifpmcfadmmkiaaDoorSqS
namespace Go.Proofs.YtifpmcfadmmkiaaDoor
open Go.RowKit

theorem Row.swapW {W : World} {g : Nat} {l : List Nat} {rest : List Value} (h : Row W g l rest) (i j : Nat) (hi : i < l.length) (hj : j < l.length) : Row (((W.setCell ⟨g, i, none⟩ (.int .u64 (at_ l j))).setCell ⟨g, j, none⟩ (.int .u64 (at_ l i))).drew) g (swp l i j) rest :=
  ((h.set i hi (at_ l j)).set j (by rw [List.length_set]; exact hj) (at_ l i)).drew
theorem Kept1.swapW {W0 W : World} {g : Nat} (h : Kept1 W0 g W) (i j : Nat) (u v : Value) : Kept1 W0 g (((W.setCell ⟨g, i, none⟩ u).setCell ⟨g, j, none⟩ v).drew) := ((h.set i u).set j v).drewN 1
theorem wrapN (n : Nat) (h : n ≤ 9223372036854775807) : IntKind.i64.wrap (n : Int) = n ∧ wrap64 (n : Int) = n :=
  ⟨by simp [IntKind.wrap, IntKind.bits, IntKind.signed]; omega, IntWalk.wrap64_in _ (by omega)⟩
theorem Row.at {W : World} {g : Nat} {l : List Nat} {rest : List Value} (h : Row W g l rest) (j : Nat) (hj : j < l.length) : W.cell? ⟨g, j, none⟩ = some (.int .u64 (at_ l j : Nat)) := by
  rw [at_lt hj]; exact h.cell j hj
set_option maxRecDepth 100000 in
set_option maxHeartbeats 4000000 in
theorem sift_any (g cap : Nat) (l0 : List Nat) (rest : List Value) (lo hi f : Nat) (hlo : lo ≤ hi) (hfl : f + hi ≤ l0.length) (hlen : l0.length ≤ 2305843009213693952) (W0 : World) (hr : Row W0 g l0 rest) (hh : HeapFrom l0 f (lo + 1) hi) :
    Calls Tryd.prog 83 #[.slice (some ⟨g, 0, none⟩) l0.length cap, .int .i64 lo, .int .i64 hi, .int .i64 f] W0 fun e W' => e = .returned (.tuple #[]) ∧ ∃ l', Hid (Row W' g l' rest) ∧ Hid (Turned (f + lo) (f + hi) l0 l' ∧ HeapFrom l' f lo hi) ∧ Hid (Kept1 W0 g W') := by
  replace hr := Lib.hid hr
  have hle := Lib.hid less_any
  go_enter Tryd.func83, Tryd.ntmps83
  go_wp2_with fail
  go_loopw [8] (fun v8 wr => ∃ (r : Nat) (l : List Nat), v8 = .int .i64 r ∧ lo ≤ r ∧ r ≤ hi ∧ Hid (Row wr g l rest) ∧ Hid (Turned (f + lo) (f + hi) l0 l ∧ Sift l f lo hi r) ∧ Hid (Kept1 W0 g wr)) (fun v8 _ => hi - (intOf v8).toNat)
  case atStart => exact ⟨lo, l0, rfl, Nat.le_refl _, hlo, hr, Lib.hid ⟨Turned.refl _ _ _, Sift.start hh⟩, Lib.hid (Kept1.refl _ _)⟩
  case round =>
    clear hr hh
    obtain ⟨r, l, rfl, hlr, hrh, hrow, hts, hk⟩ := hrel
    have hll := hts.out.1.len
    by_cases hch : 2 * r + 1 < hi
    · have hch' : 2 * (r : Int) + 1 < (hi : Int) := by omega
      have b1 : (f : Int) + (r : Int) < (l0.length : Int) := by omega
      have b2 : (f : Int) + (2 * (r : Int) + 1) < (l0.length : Int) := by omega
      have cr := hrow.out.at (f + r) (by omega)
      have cc := hrow.out.at (f + (2 * r + 1)) (by omega)
      have frf := hrow.out.free (f + r)
      have fef := hrow.out.free (f + (2 * r + 1))
      by_cases h1 : 2 * r + 1 + 1 < hi
      · have fcf := fef
        have h1' : decide (2 * (r : Int) + 1 + 1 < (hi : Int)) = true := by simp; omega
        have b3 : (f : Int) + (2 * (r : Int) + 1) + 1 < (l0.length : Int) := by omega
        have b4 : (f : Int) + (2 * (r : Int) + 1 + 1) < (l0.length : Int) := by omega
        have cd := hrow.out.at (f + (2 * r + 1) + 1) (by omega)
        have hcmp := Lib.hid (fun n => hle.out (at_ l (f + (2 * r + 1))) (at_ l (f + (2 * r + 1) + 1)) (wr.drewN n))
        by_cases hxy : at_ l (f + (2 * r + 1)) < at_ l (f + (2 * r + 1) + 1)
        · have ho := Lib.hid (show ∀ e, e = 2 * r + 1 ∨ e = 2 * r + 2 → e < hi → at_ l (f + e) ≤ at_ l (f + (2 * r + 1 + 1)) from fun e he _ => by
            rw [show f + (2 * r + 1 + 1) = f + (2 * r + 1) + 1 by omega]
            rcases he with h | h
            · rw [h]; omega
            · rw [h, show f + (2 * r + 2) = f + (2 * r + 1) + 1 by omega]; exact Nat.le_refl _)
          have ce := hrow.out.at (f + (2 * r + 1 + 1)) (by omega)
          have fef := hrow.out.free (f + (2 * r + 1 + 1))
          rw [decide_eq_true hxy] at hcmp
          clear hxy
          generalize at_ l (f + (2 * r + 1)) = z at cc hcmp
          generalize at_ l (f + (2 * r + 1) + 1) = z2 at cd hcmp
          go_wp2_with fail
          go_quiet ((go_at_call 65; exact Calls.quiet_of_same (hcmp.out _)))
          have hrow := Lib.hid (hrow.out.drewN nq)
          have hk := Lib.hid (hk.out.drewN nq)
          have cr : (wr.drewN nq).cell? ⟨g, f + r, none⟩ = some (.int .u64 (at_ l (f + r) : Nat)) := cr
          have ce : (wr.drewN nq).cell? ⟨g, f + (2 * r + 1 + 1), none⟩ = some (.int .u64 (at_ l (f + (2 * r + 1 + 1)) : Nat)) := ce
          have frf : (wr.drewN nq).frozen? ⟨g, f + r, none⟩ = false := frf
          have fef : (wr.drewN nq).frozen? ⟨g, f + (2 * r + 1 + 1), none⟩ = false := fef
          generalize wr.drewN nq = w2 at hrow hk cr ce frf fef ⊢
          clear hcmp cc cd
          have hcmp2 := Lib.hid (fun n => hle.out (at_ l (f + r)) (at_ l (f + (2 * r + 1 + 1))) (w2.drewN n))
          by_cases hlt : at_ l (f + r) < at_ l (f + (2 * r + 1 + 1))
          · have hh := Lib.hid (show Turned (f + lo) (f + hi) l0 (swp l (f + r) (f + (2 * r + 1 + 1))) ∧ Sift (swp l (f + r) (f + (2 * r + 1 + 1))) f lo hi (2 * r + 1 + 1) from ⟨hts.out.1.trans (Turned.swp l (f + r) (f + (2 * r + 1 + 1)) ⟨by omega, by omega⟩ ⟨by omega, by omega⟩ (by omega)),
              hts.out.2.step (c := (2 * r + 1 + 1)) hlr (by omega) (by omega) (by omega) hlt ho.out⟩)
            have hsw := Lib.hid (fun (W : World) (h : Row W g l rest) => h.swapW (f + r) (f + (2 * r + 1 + 1)) (by omega) (by omega))
            rw [decide_eq_true hlt] at hcmp2
            clear hlt ho hts
            generalize swp l (f + r) (f + (2 * r + 1 + 1)) = ls at hh hsw
            generalize at_ l (f + r) = x at cr hcmp2 hsw
            generalize at_ l (f + (2 * r + 1 + 1)) = y at ce hcmp2 hsw
            go_wp2_with fail
            go_quiet ((go_at_call 65; exact Calls.quiet_of_same (hcmp2.out _)))
            have hrow := Lib.hid (hrow.out.drewN nq)
            have hk := Lib.hid (hk.out.drewN nq)
            have cr : (w2.drewN nq).cell? ⟨g, f + r, none⟩ = some (.int .u64 (x : Nat)) := cr
            have ce : (w2.drewN nq).cell? ⟨g, f + (2 * r + 1 + 1), none⟩ = some (.int .u64 (y : Nat)) := ce
            have frf : (w2.drewN nq).frozen? ⟨g, f + r, none⟩ = false := frf
            have fef : (w2.drewN nq).frozen? ⟨g, f + (2 * r + 1 + 1), none⟩ = false := fef
            generalize w2.drewN nq = w2b at hrow hk cr ce frf fef ⊢
            clear hcmp2
            go_wp2_with fail
            go_region
            have hrow3 := Lib.hid (hsw.out _ hrow.out)
            have hk3 := Lib.hid (hk.out.swapW (f + r) (f + (2 * r + 1 + 1)) (.int .u64 y) (.int .u64 x))
            clear hsw cr ce frf fef hrow hk
            generalize ((w2b.setCell ⟨g, f + r, none⟩ (.int .u64 (y : Nat))).setCell ⟨g, f + (2 * r + 1 + 1), none⟩ (.int .u64 (x : Nat))).drew = w3 at hrow3 hk3 ⊢
            go_wp2_with fail
            go_roundw
            case rel => exact ⟨(2 * r + 1 + 1), ls, by go_num, by omega, by omega, hrow3, hh, hk3⟩
            case measure => simp [intOf] <;> omega
          · have hh := Lib.hid (show Turned (f + lo) (f + hi) l0 l ∧ HeapFrom l f lo hi from ⟨hts.out.1, hts.out.2.done (fun e he heh => by
              have h1 := ho.out e he heh
              omega)⟩)
            rw [decide_eq_false hlt] at hcmp2
            clear hlt ho hts
            generalize at_ l (f + r) = x at cr hcmp2
            generalize at_ l (f + (2 * r + 1 + 1)) = y at ce hcmp2
            go_wp2_with fail
            go_quiet ((go_at_call 65; exact Calls.quiet_of_same (hcmp2.out _)))
            have hrow := Lib.hid (hrow.out.drewN nq)
            have hk := Lib.hid (hk.out.drewN nq)
            generalize w2.drewN nq = w3 at hrow hk ⊢
            clear hcmp2
            go_wp2_with fail
            (try simp only [Exit.inBlock, Exit.then])
            refine bodyPost_ret (results_none rfl _ _ _) rfl ?_
            exact ⟨rfl, l, hrow, hh, hk⟩
        · have ho := Lib.hid (show ∀ e, e = 2 * r + 1 ∨ e = 2 * r + 2 → e < hi → at_ l (f + e) ≤ at_ l (f + (2 * r + 1)) from fun e he _ => by
            rcases he with h | h
            · rw [h]; exact Nat.le_refl _
            · rw [h, show f + (2 * r + 2) = f + (2 * r + 1) + 1 by omega]; omega)
          have ce := cc
          rw [decide_eq_false hxy] at hcmp
          clear hxy
          generalize at_ l (f + (2 * r + 1) + 1) = z2 at cd hcmp
          go_wp2_with fail
          go_quiet ((go_at_call 65; exact Calls.quiet_of_same (hcmp.out _)))
          have hrow := Lib.hid (hrow.out.drewN nq)
          have hk := Lib.hid (hk.out.drewN nq)
          have cr : (wr.drewN nq).cell? ⟨g, f + r, none⟩ = some (.int .u64 (at_ l (f + r) : Nat)) := cr
          have ce : (wr.drewN nq).cell? ⟨g, f + (2 * r + 1), none⟩ = some (.int .u64 (at_ l (f + (2 * r + 1)) : Nat)) := ce
          have frf : (wr.drewN nq).frozen? ⟨g, f + r, none⟩ = false := frf
          have fef : (wr.drewN nq).frozen? ⟨g, f + (2 * r + 1), none⟩ = false := fef
          generalize wr.drewN nq = w2 at hrow hk cr ce frf fef ⊢
          clear hcmp cd
          have hcmp2 := Lib.hid (fun n => hle.out (at_ l (f + r)) (at_ l (f + (2 * r + 1))) (w2.drewN n))
          by_cases hlt : at_ l (f + r) < at_ l (f + (2 * r + 1))
          · have hh := Lib.hid (show Turned (f + lo) (f + hi) l0 (swp l (f + r) (f + (2 * r + 1))) ∧ Sift (swp l (f + r) (f + (2 * r + 1))) f lo hi (2 * r + 1) from ⟨hts.out.1.trans (Turned.swp l (f + r) (f + (2 * r + 1)) ⟨by omega, by omega⟩ ⟨by omega, by omega⟩ (by omega)),
              hts.out.2.step (c := (2 * r + 1)) hlr (by omega) (by omega) (by omega) hlt ho.out⟩)
            have hsw := Lib.hid (fun (W : World) (h : Row W g l rest) => h.swapW (f + r) (f + (2 * r + 1)) (by omega) (by omega))
            rw [decide_eq_true hlt] at hcmp2
            clear hlt ho hts
            generalize swp l (f + r) (f + (2 * r + 1)) = ls at hh hsw
            generalize at_ l (f + r) = x at cr hcmp2 hsw
            generalize at_ l (f + (2 * r + 1)) = y at ce hcmp2 hsw
            go_wp2_with fail
            go_quiet ((go_at_call 65; exact Calls.quiet_of_same (hcmp2.out _)))
            have hrow := Lib.hid (hrow.out.drewN nq)
            have hk := Lib.hid (hk.out.drewN nq)
            have cr : (w2.drewN nq).cell? ⟨g, f + r, none⟩ = some (.int .u64 (x : Nat)) := cr
            have ce : (w2.drewN nq).cell? ⟨g, f + (2 * r + 1), none⟩ = some (.int .u64 (y : Nat)) := ce
            have frf : (w2.drewN nq).frozen? ⟨g, f + r, none⟩ = false := frf
            have fef : (w2.drewN nq).frozen? ⟨g, f + (2 * r + 1), none⟩ = false := fef
            generalize w2.drewN nq = w2b at hrow hk cr ce frf fef ⊢
            clear hcmp2
            go_wp2_with fail
            go_region
            have hrow3 := Lib.hid (hsw.out _ hrow.out)
            have hk3 := Lib.hid (hk.out.swapW (f + r) (f + (2 * r + 1)) (.int .u64 y) (.int .u64 x))
            clear hsw cr ce frf fef hrow hk
            generalize ((w2b.setCell ⟨g, f + r, none⟩ (.int .u64 (y : Nat))).setCell ⟨g, f + (2 * r + 1), none⟩ (.int .u64 (x : Nat))).drew = w3 at hrow3 hk3 ⊢
            go_wp2_with fail
            go_roundw
            case rel => exact ⟨(2 * r + 1), ls, by go_num, by omega, by omega, hrow3, hh, hk3⟩
            case measure => simp [intOf] <;> omega
          · have hh := Lib.hid (show Turned (f + lo) (f + hi) l0 l ∧ HeapFrom l f lo hi from ⟨hts.out.1, hts.out.2.done (fun e he heh => by
              have h1 := ho.out e he heh
              omega)⟩)
            rw [decide_eq_false hlt] at hcmp2
            clear hlt ho hts
            generalize at_ l (f + r) = x at cr hcmp2
            generalize at_ l (f + (2 * r + 1)) = y at ce hcmp2
            go_wp2_with fail
            go_quiet ((go_at_call 65; exact Calls.quiet_of_same (hcmp2.out _)))
            have hrow := Lib.hid (hrow.out.drewN nq)
            have hk := Lib.hid (hk.out.drewN nq)
            generalize w2.drewN nq = w3 at hrow hk ⊢
            clear hcmp2
            go_wp2_with fail
            (try simp only [Exit.inBlock, Exit.then])
            refine bodyPost_ret (results_none rfl _ _ _) rfl ?_
            exact ⟨rfl, l, hrow, hh, hk⟩
      · have h1' : decide (2 * (r : Int) + 1 + 1 < (hi : Int)) = false := by simp; omega
        have ho := Lib.hid (show ∀ e, e = 2 * r + 1 ∨ e = 2 * r + 2 → e < hi → at_ l (f + e) ≤ at_ l (f + (2 * r + 1)) from fun e he heh => by
          rw [show e = 2 * r + 1 by omega]; exact Nat.le_refl _)
        have ce := cc
        clear cc
        go_wp2_with fail
        go_quiet (fail)
        have hrow := Lib.hid (hrow.out.drewN nq)
        have hk := Lib.hid (hk.out.drewN nq)
        have cr : (wr.drewN nq).cell? ⟨g, f + r, none⟩ = some (.int .u64 (at_ l (f + r) : Nat)) := cr
        have ce : (wr.drewN nq).cell? ⟨g, f + (2 * r + 1), none⟩ = some (.int .u64 (at_ l (f + (2 * r + 1)) : Nat)) := ce
        have frf : (wr.drewN nq).frozen? ⟨g, f + r, none⟩ = false := frf
        have fef : (wr.drewN nq).frozen? ⟨g, f + (2 * r + 1), none⟩ = false := fef
        generalize wr.drewN nq = w2 at hrow hk cr ce frf fef ⊢
        clear h1'
        have hcmp2 := Lib.hid (fun n => hle.out (at_ l (f + r)) (at_ l (f + (2 * r + 1))) (w2.drewN n))
        by_cases hlt : at_ l (f + r) < at_ l (f + (2 * r + 1))
        · have hh := Lib.hid (show Turned (f + lo) (f + hi) l0 (swp l (f + r) (f + (2 * r + 1))) ∧ Sift (swp l (f + r) (f + (2 * r + 1))) f lo hi (2 * r + 1) from ⟨hts.out.1.trans (Turned.swp l (f + r) (f + (2 * r + 1)) ⟨by omega, by omega⟩ ⟨by omega, by omega⟩ (by omega)),
            hts.out.2.step (c := (2 * r + 1)) hlr (by omega) (by omega) (by omega) hlt ho.out⟩)
          have hsw := Lib.hid (fun (W : World) (h : Row W g l rest) => h.swapW (f + r) (f + (2 * r + 1)) (by omega) (by omega))
          rw [decide_eq_true hlt] at hcmp2
          clear hlt ho hts
          generalize swp l (f + r) (f + (2 * r + 1)) = ls at hh hsw
          generalize at_ l (f + r) = x at cr hcmp2 hsw
          generalize at_ l (f + (2 * r + 1)) = y at ce hcmp2 hsw
          go_wp2_with fail
          go_quiet ((go_at_call 65; exact Calls.quiet_of_same (hcmp2.out _)))
          have hrow := Lib.hid (hrow.out.drewN nq)
          have hk := Lib.hid (hk.out.drewN nq)
          have cr : (w2.drewN nq).cell? ⟨g, f + r, none⟩ = some (.int .u64 (x : Nat)) := cr
          have ce : (w2.drewN nq).cell? ⟨g, f + (2 * r + 1), none⟩ = some (.int .u64 (y : Nat)) := ce
          have frf : (w2.drewN nq).frozen? ⟨g, f + r, none⟩ = false := frf
          have fef : (w2.drewN nq).frozen? ⟨g, f + (2 * r + 1), none⟩ = false := fef
          generalize w2.drewN nq = w2b at hrow hk cr ce frf fef ⊢
          clear hcmp2
          go_wp2_with fail
          go_region
          have hrow3 := Lib.hid (hsw.out _ hrow.out)
          have hk3 := Lib.hid (hk.out.swapW (f + r) (f + (2 * r + 1)) (.int .u64 y) (.int .u64 x))
          clear hsw cr ce frf fef hrow hk
          generalize ((w2b.setCell ⟨g, f + r, none⟩ (.int .u64 (y : Nat))).setCell ⟨g, f + (2 * r + 1), none⟩ (.int .u64 (x : Nat))).drew = w3 at hrow3 hk3 ⊢
          go_wp2_with fail
          go_roundw
          case rel => exact ⟨(2 * r + 1), ls, by go_num, by omega, by omega, hrow3, hh, hk3⟩
          case measure => simp [intOf] <;> omega
        · have hh := Lib.hid (show Turned (f + lo) (f + hi) l0 l ∧ HeapFrom l f lo hi from ⟨hts.out.1, hts.out.2.done (fun e he heh => by
            have h1 := ho.out e he heh
            omega)⟩)
          rw [decide_eq_false hlt] at hcmp2
          clear hlt ho hts
          generalize at_ l (f + r) = x at cr hcmp2
          generalize at_ l (f + (2 * r + 1)) = y at ce hcmp2
          go_wp2_with fail
          go_quiet ((go_at_call 65; exact Calls.quiet_of_same (hcmp2.out _)))
          have hrow := Lib.hid (hrow.out.drewN nq)
          have hk := Lib.hid (hk.out.drewN nq)
          generalize w2.drewN nq = w3 at hrow hk ⊢
          clear hcmp2
          go_wp2_with fail
          (try simp only [Exit.inBlock, Exit.then])
          refine bodyPost_ret (results_none rfl _ _ _) rfl ?_
          exact ⟨rfl, l, hrow, hh, hk⟩
    · have hge : (hi : Int) ≤ 2 * (r : Int) + 1 := by omega
      have hh := Lib.hid (show Turned (f + lo) (f + hi) l0 l ∧ HeapFrom l f lo hi from ⟨hts.out.1, hts.out.2.done (fun e he heh => by omega)⟩)
      clear hts
      go_wp2_with fail
      go_end0
      exact ⟨rfl, l, hrow, hh, hk⟩
end Go.Proofs.YtifpmcfadmmkiaaDoor
