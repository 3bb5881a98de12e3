/- container/heap's up and down, over flight: walked. -/
import Derived.Test.YtjopbglimjhefaaNeC
namespace Go.Proofs.Ytjopbglimjhefaa
open Go.RowKit

/-- the flight in block b: its slice -/
def FSlice (W : World) (b g n cap : Nat) : Prop := W.cell? ⟨b, 0, none⟩ = some (.slice (some ⟨g, 0, none⟩) n cap)
theorem method_at {a : Addr} {w : World} {nm : String} {f : FuncId} (hk : ∀ (a : Addr) (w : World), (method 223 64 (.pointer (some a)) nm).run Try.prog w = (do let x ← loadVar 54 a; pure (f, x) : Sem (FuncId × Value)).run Try.prog w) {v : Value} (hc : w.cell? a = some v) : (method 223 64 (.pointer (some a)) nm).run Try.prog w = .ok (f, v) w := by
  have hl : (loadVar 54 a).run Try.prog w = .ok v w := by
    simp [loadVar, Sem.run_bind, hc, go_sem]
  rw [hk a w]
  simp only [Sem.run_bind, hl, Result.andThen, Sem.run_pure]
theorem method_less (a : Addr) (w : World) : (method 223 64 (.pointer (some a)) "Less").run Try.prog w = (do let x ← loadVar 54 a; pure (80, x) : Sem (FuncId × Value)).run Try.prog w := by kernel_rfl
theorem method_swap (a : Addr) (w : World) : (method 223 64 (.pointer (some a)) "Swap").run Try.prog w = (do let x ← loadVar 54 a; pure (81, x) : Sem (FuncId × Value)).run Try.prog w := by kernel_rfl
theorem method_len (a : Addr) (w : World) : (method 223 64 (.pointer (some a)) "Len").run Try.prog w = (do let x ← loadVar 54 a; pure (79, x) : Sem (FuncId × Value)).run Try.prog w := by kernel_rfl
set_option maxRecDepth 100000 in
set_option maxHeartbeats 4000000 in
theorem up_any (b g cap : Nat) (l0 : List Pk) (rest : List Value) (j0 n : Nat) (hbg : b ≠ g) (hj : j0 < n) (hn : n ≤ l0.length) (hlen : l0.length ≤ 1000000) (W0 : World) (hc : FSlice W0 b g l0.length cap) (hr : PRow W0 g l0 rest) (hx : Exc l0 n j0 ∧ Under l0 n j0) :
    Calls Try.prog 44 #[.iface 64 (.pointer (some ⟨b, 0, none⟩)), .int .i64 j0] W0 fun e W' => e = .returned (.tuple #[]) ∧ ∃ l', Hid (PRow W' g l' rest) ∧ Hid (PTurn n l0 l' ∧ Heap l' n) ∧ Hid (Kept1 W0 g W') := by
  replace hr := Lib.hid hr
  replace hc := Lib.hid hc
  have hle := Lib.hid less_any
  have hsw := Lib.hid swap_rel
  go_enter Try.func44, Try.ntmps44
  go_wp2_with fail
  go_loopw [1] (fun v1 wr => ∃ (j : Nat) (l : List Pk), v1 = .int .i64 j ∧ j < n ∧ Hid (PRow wr g l rest) ∧ Hid (PTurn n l0 l ∧ Exc l n j ∧ Under l n j) ∧ Hid (Kept1 W0 g wr)) (fun v1 _ => (intOf v1).toNat)
  case atStart => exact ⟨j0, l0, rfl, hj, hr, Lib.hid ⟨PTurn.refl _ _, hx⟩, Lib.hid (Kept1.refl _ _)⟩
  case round =>
    obtain ⟨j, l, rfl, hjl, hrow, hph, hk⟩ := hrel
    have hll := Lib.hid hph.out.1.len
    have hcw : wr.cell? ⟨b, 0, none⟩ = some (.slice (some ⟨g, 0, none⟩) l0.length cap) := hk.out.cell hbg hc.out
    by_cases h0 : j = 0
    · subst h0
      have hend := Lib.hid (And.intro hph.out.1 (hph.out.2.1.heap hph.out.2.2 (fun p hp => by unfold Child at hp; omega)))
      go_wp2_with fail
      go_end0
      exact ⟨rfl, l, hrow, hend, hk⟩
    · obtain ⟨p, hp⟩ : ∃ p, Child p j := ⟨(j - 1) / 2, by unfold Child; omega⟩
      have hpj : p < j := by unfold Child at hp; omega
      have hq : ((j : Int) - 1) / 2 = (p : Int) := by unfold Child at hp; omega
      replace hp := Lib.hid hp
      have q : ((p : Int) == (j : Int)) = false := by simp; omega
      have hm := method_at method_less hcw
      have hcall := hle.out g cap l rest j p (by rw [hll.out]; omega) (by rw [hll.out]; omega) wr hrow.out
      rw [hll.out] at hcall
      replace hcall := Lib.hid hcall
      go_wp2_with fail
      refine hcall.out.mono ?_
      rintro e w1 ⟨rfl, nq, rfl⟩
      clear hcall hm
      have hrow2 := Lib.hid (hrow.out.drewN nq)
      have hk2 := Lib.hid (hk.out.drewN nq)
      have hcw2 : (wr.drewN nq).cell? ⟨b, 0, none⟩ = some (.slice (some ⟨g, 0, none⟩) l0.length cap) := hcw
      generalize wr.drewN nq = w2 at hrow2 hk2 hcw2 ⊢
      clear hrow hk hcw
      by_cases hlt : ltP (pat l j) (pat l p)
      · rw [decide_eq_true hlt]
        have hup := hph.out.2.1.up hph.out.2.2 (by rw [hll.out]; exact hn) hjl hp.out hlt
        have hn := Lib.hid (And.intro (hph.out.1.trans (PTurn.swp l p j (by omega) hjl (by rw [hll.out]; exact hn))) hup)
        have hcall := hsw.out g cap l rest p j (by rw [hll.out]; omega) (by rw [hll.out]; omega) w2 hrow2.out
        rw [hll.out] at hcall
        replace hcall := Lib.hid hcall
        have hm := method_at method_swap hcw2
        clear hup hlt
        go_wp2_with fail
        refine hcall.out.mono ?_
        rintro e w3 ⟨rfl, hr3, hk3⟩
        have hrow3 := Lib.hid hr3
        have hkk := Lib.hid (hk2.out.trans hk3)
        clear hr3 hk3 hcall hm hcw2
        go_wp2_with fail
        go_roundw
        case rel => exact ⟨p, pswp l p j, rfl, by omega, hrow3, hn, hkk⟩
        case measure => simp [intOf] <;> omega
      · rw [decide_eq_false hlt]
        have hend := Lib.hid (And.intro hph.out.1 (hph.out.2.1.heap hph.out.2.2 (fun a ha => by
          have ha' := hp.out
          unfold Child at ha ha'
          obtain rfl : a = p := by omega
          exact hlt)))
        clear hlt
        go_wp2_with fail
        go_end0
        exact ⟨rfl, l, hrow2, hend, hk2⟩
end Go.Proofs.Ytjopbglimjhefaa
