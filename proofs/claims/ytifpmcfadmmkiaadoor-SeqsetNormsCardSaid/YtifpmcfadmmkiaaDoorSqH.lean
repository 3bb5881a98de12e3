/- The document's Same of ranges; SeqsetTurned, SeqsetHolds: walked, over what 'alive' answers. -/
import Derived.Test.YtifpmcfadmmkiaaDoorSqG
namespace Go.Proofs.YtifpmcfadmmkiaaDoor
open Go.RowKit

set_option maxRecDepth 100000 in
set_option maxHeartbeats 4000000 in
theorem same_any (va vb : Value) (a b : List Rng) (w : World) (ha : RangesIn w w.heap.size va a) (hb : RangesIn w w.heap.size vb b) (hl : a.length ≤ 9223372036854775807) :
    Calls Tryd.prog 12 #[va, vb] w fun e w' => e = .returned (.bool (decide (a = b))) ∧ Below w.heap.size w w' := by
  have ha0 := Lib.hid ha
  have hb0 := Lib.hid hb
  obtain ⟨ao, cap, rfl, -⟩ := ha
  obtain ⟨ao2, cap2, rfl, -⟩ := hb
  by_cases hlen : a.length = b.length
  · go_enter Tryd.func12, Tryd.ntmps12
    rw [← hlen]
    have hne : ((a.length : Int) != (a.length : Int)) = false := by simp
    have hlen0 := Lib.hid hlen
    clear hlen
    go_wp2_with fail
    go_loopw [5] (fun v5 wr => ∃ q : Nat, v5 = .int .i64 q ∧ q ≤ a.length ∧ Hid (a.take q = b.take q) ∧ Hid (Below w.heap.size w wr)) (fun v5 _ => a.length - (intOf v5).toNat)
    case atStart => exact ⟨0, rfl, Nat.zero_le _, Lib.hid rfl, Lib.hid (Below.refl _ _)⟩
    case round =>
      obtain ⟨q, rfl, hq, heq, hbl⟩ := hrel
      by_cases hlt : q < a.length
      · have hlt2 : q < b.length := by rw [← hlen0.out]; exact hlt
        obtain ⟨a1, p1, hv1, hk | ⟨b1, o1, hao, hbB1, hcap1, hcells1⟩⟩ := ha0.out.later hbl.out
        · rw [hk] at hlt; simp at hlt
        obtain ⟨a2, p2, hv2, hk | ⟨b2, o2, hao2, hbB2, hcap2, hcells2⟩⟩ := hb0.out.later hbl.out
        · rw [hk] at hlt2; simp at hlt2
        cases hv1
        cases hv2
        subst hao hao2
        obtain ⟨c0, c1⟩ := hcells1 q hlt
        obtain ⟨d0, d1⟩ := hcells2 q hlt2
        have hstep : a[q] = b[q] → a.take (q + 1) = b.take (q + 1) := fun h => by rw [List.take_succ_eq_append_getElem hlt, List.take_succ_eq_append_getElem hlt2, heq.out, h]
        have hdiff : a[q] ≠ b[q] → decide (a = b) = false := fun h => decide_eq_false (fun e => h (by subst e; rfl))
        generalize a[q] = x at c0 c1 hstep hdiff
        generalize b[q] = y at d0 d1 hstep hdiff
        obtain ⟨x0, x1⟩ := x
        obtain ⟨y0, y1⟩ := y
        dsimp only at c0 c1 d0 d1
        clear hcells1 hcells2 hlt2
        have hbW := Lib.hid (fun m => below_drewN hbl.out m)
        have hi0 : (0 : Int) ≤ (q : Int) := by omega
        have hi1 : (q : Int) < (a.length : Int) := by omega
        by_cases hxy : x0 = y0 ∧ x1 = y1
        · obtain ⟨rfl, rfl⟩ := hxy
          have hs := Lib.hid (hstep rfl)
          clear hstep hdiff
          go_wp2_with fail
          go_quiet (fail)
          go_wp2_with fail
          go_roundw
          case rel => exact ⟨q + 1, by go_num, by omega, hs, Lib.hid (hbW.out _)⟩
          case measure => simp [intOf] <;> omega
        · have hd := Lib.hid (hdiff (fun e => hxy (by simpa using e)))
          clear hstep hdiff
          by_cases h0 : x0 = y0
          · have e0 : ((x0 : Int) == (y0 : Int)) = true := beq_iff_eq.2 (by omega)
            have e1 : ((x1 : Int) == (y1 : Int)) = false := beq_eq_false_iff_ne.2 (by omega)
            clear h0 hxy
            go_wp2_with fail
            go_quiet (fail)
            go_wp2_with fail
            go_ret
            exact ⟨by rw [hd.out]; rfl, hbW.out _⟩
          · have e0 : ((x0 : Int) == (y0 : Int)) = false := beq_eq_false_iff_ne.2 (by omega)
            clear h0 hxy
            go_wp2_with fail
            go_quiet (fail)
            go_wp2_with fail
            go_ret
            exact ⟨by rw [hd.out]; rfl, hbW.out _⟩
      · obtain rfl : q = a.length := by omega
        have hd : Hid (decide (a = b) = true) := Lib.hid (decide_eq_true (by
          have h := heq.out
          rw [List.take_length] at h
          rw [h, hlen0.out, List.take_length]))
        go_wp2_with fail
        go_ret
        exact ⟨by rw [hd.out]; rfl, hbl.out⟩
  · have hn : ((a.length : Int) != (b.length : Int)) = true := by rw [bne_iff_ne]; omega
    have hd : Hid (decide (a = b) = false) := Lib.hid (decide_eq_false (fun e => hlen (by rw [e])))
    clear hlen
    go_enter Tryd.func12, Tryd.ntmps12
    go_wp2_with fail
    go_ret
    exact ⟨by rw [hd.out]; rfl, Below.refl _ _⟩
end Go.Proofs.YtifpmcfadmmkiaaDoor
