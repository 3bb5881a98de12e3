/- container/heap's down, over flight: walked. -/
import Derived.Test.YtjopbglimjhefaaNeD
namespace Go.Proofs.Ytjopbglimjhefaa
open Go.RowKit

theorem PTurn.next {n : Nat} {l0 l : List Pk} (h : PTurn n l0 l) (i j : Nat) (hi : i < n) (hj : j < n) (hn : n ≤ l0.length) : PTurn n l0 (pswp l i j) := h.trans (PTurn.swp l i j hi hj (by rw [h.len]; exact hn))
/-- what down has done, at place i -/
def Going (l0 l : List Pk) (i0 i : Nat) : Prop := (i = i0 ∧ l = l0) ∨ (i0 < i ∧ Over l i)
theorem Going.le {l0 l : List Pk} {i0 i : Nat} (h : Going l0 l i0 i) : i0 ≤ i := by rcases h with ⟨rfl, _⟩ | ⟨h, _⟩ <;> omega
/-- what down has made -/
def Downed (l0 l : List Pk) (n i0 : Nat) (m : Bool) : Prop := PTurn n l0 l ∧ (m = true → Heap l n) ∧ (m = false → l = l0 ∧ Under l n i0)
theorem Going.done {l0 l : List Pk} {n i0 i : Nat} (h : Going l0 l i0 i) (ht : PTurn n l0 l) (hx : Exc l n i) (hu : Under l n i) : Downed l0 l n i0 (decide (i0 < i)) := by
  refine ⟨ht, fun hm => ?_, fun hm => ?_⟩
  · have hlt : i0 < i := by simpa using hm
    rcases h with ⟨rfl, _⟩ | ⟨_, ho⟩
    · omega
    · exact hx.heap hu ho
  · have hlt : ¬ i0 < i := by simpa using hm
    rcases h with ⟨rfl, rfl⟩ | ⟨h, _⟩
    · exact ⟨rfl, hu⟩
    · omega
set_option maxRecDepth 100000 in
set_option maxHeartbeats 4000000 in
theorem down_any (b g cap : Nat) (l0 : List Pk) (rest : List Value) (i0 n : Nat) (hbg : b ≠ g) (hi : i0 ≤ n) (hn : n ≤ l0.length) (hlen : l0.length ≤ 1000000) (W0 : World) (hc : FSlice W0 b g l0.length cap) (hr : PRow W0 g l0 rest) (hx : Exc l0 n i0) :
    Calls Try.prog 40 #[.iface 64 (.pointer (some ⟨b, 0, none⟩)), .int .i64 i0, .int .i64 n] W0 fun e W' => ∃ m l', e = .returned (.bool m) ∧ Hid (PRow W' g l' rest) ∧ Hid (Downed l0 l' n i0 m) ∧ Hid (Kept1 W0 g W') := by
  replace hr := Lib.hid hr
  replace hc := Lib.hid hc
  have hle := Lib.hid less_any
  have hsw := Lib.hid swap_rel
  go_enter Try.func40, Try.ntmps40
  go_wp2_with fail
  go_loopw [7] (fun v7 wr => ∃ (i : Nat) (l : List Pk), v7 = .int .i64 i ∧ i ≤ n ∧ Hid (PRow wr g l rest) ∧ Hid (Going l0 l i0 i ∧ PTurn n l0 l ∧ Exc l n i) ∧ Hid (Kept1 W0 g wr)) (fun v7 _ => n - (intOf v7).toNat)
  case atStart => exact ⟨i0, l0, rfl, hi, hr, Lib.hid ⟨.inl ⟨rfl, rfl⟩, PTurn.refl _ _, hx⟩, Lib.hid (Kept1.refl _ _)⟩
  case round =>
    obtain ⟨i, l, rfl, hin, hrow, hg, hk⟩ := hrel
    have hll := Lib.hid hg.out.2.1.len
    have hcw : wr.cell? ⟨b, 0, none⟩ = some (.slice (some ⟨g, 0, none⟩) l0.length cap) := hk.out.cell hbg hc.out
    by_cases h1 : 2 * i + 1 < n
    · have h1' : 2 * (i : Int) + 1 < (n : Int) := by omega
      have hm := method_at method_less hcw
      by_cases h2 : 2 * i + 2 < n
      · have h2' : 2 * (i : Int) + 1 + 1 < (n : Int) := by omega
        have hsz := hll.out
        have hcall := hle.out g cap l rest (2 * i + 2) (2 * i + 1) (by omega) (by omega) wr hrow.out
        rw [hll.out] at hcall
        have e2 : ((2 * i + 2 : Nat) : Int) = 2 * (i : Int) + 1 + 1 := by omega
        have e1 : ((2 * i + 1 : Nat) : Int) = 2 * (i : Int) + 1 := by omega
        rw [e1, e2] at hcall
        replace hcall := Lib.hid hcall
        clear e1 e2 hsz
        go_wp2_with fail
        refine hcall.out.mono ?_
        rintro e w1 ⟨rfl, nq, rfl⟩
        clear hcall hm
        have hrow2 := Lib.hid (hrow.out.drewN nq)
        have hk2 := Lib.hid (hk.out.drewN nq)
        have hcw2 : (wr.drewN nq).cell? ⟨b, 0, none⟩ = some (.slice (some ⟨g, 0, none⟩) l0.length cap) := hcw
        generalize wr.drewN nq = w2 at hrow2 hk2 hcw2 ⊢
        clear hrow hk hcw
        by_cases hlt : ltP (pat l (2 * i + 2)) (pat l (2 * i + 1))
        · rw [decide_eq_true hlt]
          have hs := Lib.hid (show ∀ d, Child i d → d < n → leP (pat l (2 * i + 2)) (pat l d) from fun d hd _ => by
            rcases hd with rfl | rfl
            · exact hlt.le
            · exact leP.refl _)
          clear hlt
          have hsz := hll.out
          have hcall := hle.out g cap l rest (2 * i + 2) i (by omega) (by omega) w2 hrow2.out
          rw [hll.out] at hcall
          have ec : ((2 * i + 2 : Nat) : Int) = 2 * (i : Int) + 1 + 1 := by omega
          rw [ec] at hcall
          replace hcall := Lib.hid hcall
          have hm := method_at method_less hcw2
          clear hsz ec
          go_wp2_with fail
          refine hcall.out.mono ?_
          rintro e w3 ⟨rfl, nq, rfl⟩
          clear hcall hm
          have hrow3 := Lib.hid (hrow2.out.drewN nq)
          have hk3 := Lib.hid (hk2.out.drewN nq)
          have hcw3 : (w2.drewN nq).cell? ⟨b, 0, none⟩ = some (.slice (some ⟨g, 0, none⟩) l0.length cap) := hcw2
          generalize w2.drewN nq = w4 at hrow3 hk3 hcw3 ⊢
          clear hrow2 hk2 hcw2
          by_cases hlt : ltP (pat l (2 * i + 2)) (pat l i)
          · rw [decide_eq_true hlt]
            have hsz := hll.out
            have hd := hg.out.2.2.down (by omega) (by unfold Child; omega) (by omega) hlt hs.out
            have hn2 := Lib.hid (And.intro (show Going l0 (pswp l i (2 * i + 2)) i0 (2 * i + 2) from .inr ⟨by have := hg.out.1.le; omega, hd.2⟩) (And.intro (hg.out.2.1.next i (2 * i + 2) (by omega) (by omega) hn) hd.1))
            have hcall := hsw.out g cap l rest i (2 * i + 2) (by omega) (by omega) w4 hrow3.out
            rw [hll.out] at hcall
            have ec : ((2 * i + 2 : Nat) : Int) = 2 * (i : Int) + 1 + 1 := by omega
            rw [ec] at hcall
            replace hcall := Lib.hid hcall
            have hm := method_at method_swap hcw3
            clear hd hlt hsz ec
            go_wp2_with fail
            refine hcall.out.mono ?_
            rintro e w5 ⟨rfl, hr5, hk5⟩
            have hrow5 := Lib.hid hr5
            have hkk := Lib.hid (hk3.out.trans hk5)
            clear hr5 hk5 hcall hm hcw3
            go_wp2_with fail
            go_roundw
            case rel => exact ⟨2 * i + 2, pswp l i (2 * i + 2), by go_num, by omega, hrow5, hn2, hkk⟩
            case measure => simp [intOf] <;> omega
          · rw [decide_eq_false hlt]
            have hend := Lib.hid (hg.out.1.done hg.out.2.1 hg.out.2.2 (fun d hd hdn => (leP.of_not hlt).trans (hs.out d hd hdn)))
            clear hlt hs
            go_wp2_with fail
            go_ret
            exact ⟨_, l, rfl, hrow3, hend, hk3⟩
        · rw [decide_eq_false hlt]
          have hs := Lib.hid (show ∀ d, Child i d → d < n → leP (pat l (2 * i + 1)) (pat l d) from fun d hd _ => by
            rcases hd with rfl | rfl
            · exact leP.refl _
            · exact leP.of_not hlt)
          clear hlt
          have hsz := hll.out
          have hcall := hle.out g cap l rest (2 * i + 1) i (by omega) (by omega) w2 hrow2.out
          rw [hll.out] at hcall
          have ec : ((2 * i + 1 : Nat) : Int) = 2 * (i : Int) + 1 := by omega
          rw [ec] at hcall
          replace hcall := Lib.hid hcall
          have hm := method_at method_less hcw2
          clear hsz ec
          go_wp2_with fail
          refine hcall.out.mono ?_
          rintro e w3 ⟨rfl, nq, rfl⟩
          clear hcall hm
          have hrow3 := Lib.hid (hrow2.out.drewN nq)
          have hk3 := Lib.hid (hk2.out.drewN nq)
          have hcw3 : (w2.drewN nq).cell? ⟨b, 0, none⟩ = some (.slice (some ⟨g, 0, none⟩) l0.length cap) := hcw2
          generalize w2.drewN nq = w4 at hrow3 hk3 hcw3 ⊢
          clear hrow2 hk2 hcw2
          by_cases hlt : ltP (pat l (2 * i + 1)) (pat l i)
          · rw [decide_eq_true hlt]
            have hsz := hll.out
            have hd := hg.out.2.2.down (by omega) (by unfold Child; omega) (by omega) hlt hs.out
            have hn2 := Lib.hid (And.intro (show Going l0 (pswp l i (2 * i + 1)) i0 (2 * i + 1) from .inr ⟨by have := hg.out.1.le; omega, hd.2⟩) (And.intro (hg.out.2.1.next i (2 * i + 1) (by omega) (by omega) hn) hd.1))
            have hcall := hsw.out g cap l rest i (2 * i + 1) (by omega) (by omega) w4 hrow3.out
            rw [hll.out] at hcall
            have ec : ((2 * i + 1 : Nat) : Int) = 2 * (i : Int) + 1 := by omega
            rw [ec] at hcall
            replace hcall := Lib.hid hcall
            have hm := method_at method_swap hcw3
            clear hd hlt hsz ec
            go_wp2_with fail
            refine hcall.out.mono ?_
            rintro e w5 ⟨rfl, hr5, hk5⟩
            have hrow5 := Lib.hid hr5
            have hkk := Lib.hid (hk3.out.trans hk5)
            clear hr5 hk5 hcall hm hcw3
            go_wp2_with fail
            go_roundw
            case rel => exact ⟨2 * i + 1, pswp l i (2 * i + 1), by go_num, by omega, hrow5, hn2, hkk⟩
            case measure => simp [intOf] <;> omega
          · rw [decide_eq_false hlt]
            have hend := Lib.hid (hg.out.1.done hg.out.2.1 hg.out.2.2 (fun d hd hdn => (leP.of_not hlt).trans (hs.out d hd hdn)))
            clear hlt hs
            go_wp2_with fail
            go_ret
            exact ⟨_, l, rfl, hrow3, hend, hk3⟩
      · have h2' : (n : Int) ≤ 2 * (i : Int) + 1 + 1 := by omega
        have hs := Lib.hid (show ∀ d, Child i d → d < n → leP (pat l (2 * i + 1)) (pat l d) from fun d hd hdn => by
          rcases hd with rfl | rfl
          · exact leP.refl _
          · omega)
        clear hm
        have hsz := hll.out
        have hcall := hle.out g cap l rest (2 * i + 1) i (by omega) (by omega) wr hrow.out
        rw [hll.out] at hcall
        have ec : ((2 * i + 1 : Nat) : Int) = 2 * (i : Int) + 1 := by omega
        rw [ec] at hcall
        replace hcall := Lib.hid hcall
        have hm := method_at method_less hcw
        clear hsz ec
        go_wp2_with fail
        refine hcall.out.mono ?_
        rintro e w3 ⟨rfl, nq, rfl⟩
        clear hcall hm
        have hrow3 := Lib.hid (hrow.out.drewN nq)
        have hk3 := Lib.hid (hk.out.drewN nq)
        have hcw3 : (wr.drewN nq).cell? ⟨b, 0, none⟩ = some (.slice (some ⟨g, 0, none⟩) l0.length cap) := hcw
        generalize wr.drewN nq = w4 at hrow3 hk3 hcw3 ⊢
        clear hrow hk hcw
        by_cases hlt : ltP (pat l (2 * i + 1)) (pat l i)
        · rw [decide_eq_true hlt]
          have hsz := hll.out
          have hd := hg.out.2.2.down (by omega) (by unfold Child; omega) (by omega) hlt hs.out
          have hn2 := Lib.hid (And.intro (show Going l0 (pswp l i (2 * i + 1)) i0 (2 * i + 1) from .inr ⟨by have := hg.out.1.le; omega, hd.2⟩) (And.intro (hg.out.2.1.next i (2 * i + 1) (by omega) (by omega) hn) hd.1))
          have hcall := hsw.out g cap l rest i (2 * i + 1) (by omega) (by omega) w4 hrow3.out
          rw [hll.out] at hcall
          have ec : ((2 * i + 1 : Nat) : Int) = 2 * (i : Int) + 1 := by omega
          rw [ec] at hcall
          replace hcall := Lib.hid hcall
          have hm := method_at method_swap hcw3
          clear hd hlt hsz ec
          go_wp2_with fail
          refine hcall.out.mono ?_
          rintro e w5 ⟨rfl, hr5, hk5⟩
          have hrow5 := Lib.hid hr5
          have hkk := Lib.hid (hk3.out.trans hk5)
          clear hr5 hk5 hcall hm hcw3
          go_wp2_with fail
          go_roundw
          case rel => exact ⟨2 * i + 1, pswp l i (2 * i + 1), by go_num, by omega, hrow5, hn2, hkk⟩
          case measure => simp [intOf] <;> omega
        · rw [decide_eq_false hlt]
          have hend := Lib.hid (hg.out.1.done hg.out.2.1 hg.out.2.2 (fun d hd hdn => (leP.of_not hlt).trans (hs.out d hd hdn)))
          clear hlt hs
          go_wp2_with fail
          go_ret
          exact ⟨_, l, rfl, hrow3, hend, hk3⟩
    · have h1' : (n : Int) ≤ 2 * (i : Int) + 1 := by omega
      have hend := Lib.hid (hg.out.1.done hg.out.2.1 hg.out.2.2 (fun c hc hn => by unfold Child at hc; omega))
      go_wp2_with fail
      go_ret
      exact ⟨_, l, rfl, hrow, hend, hk⟩
end Go.Proofs.Ytjopbglimjhefaa
