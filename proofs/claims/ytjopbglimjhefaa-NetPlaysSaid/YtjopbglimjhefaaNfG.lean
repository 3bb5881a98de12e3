/- The document's net: Next; Same: walked. -/
import Derived.Test.YtjopbglimjhefaaNfF
import Derived.BigQuiet
import Derived.Deep.QuietTactic
import Derived.Laws.StructEq
namespace Go.Proofs.Ytjopbglimjhefaa
set_option linter.unusedSimpArgs false
open Go.RowKit Go.Maps Go.WideMaps

set_option maxRecDepth 100000 in
set_option maxHeartbeats 4000000 in
theorem refSame_any (v1 v2 : Value) (l : List Pk) (W : World) (h1 : OwnP W v1 l) (h2 : OwnP W v2 l) (hl : l.length ≤ 1000000) :
    Calls Try.prog 17 #[v1, v2] W fun e w' => e = .returned (.bool true) ∧ Hid (Below W.heap.size W w') := by
  obtain ⟨a1, c1, hv1⟩ := h1.len
  obtain ⟨a2, c2, hv2⟩ := h2.len
  subst hv1 hv2
  replace h1 := Lib.hid h1
  replace h2 := Lib.hid h2
  go_enter Try.func17, Try.ntmps17
  have hq0 : ((l.length : Int) != (l.length : Int)) = false := by simp
  go_wp2_with fail
  go_loopw [5] (fun v5 wr => ∃ i : Nat, v5 = .int .i64 i ∧ i ≤ l.length ∧ Hid (Below W.heap.size W wr)) (fun v5 _ => l.length - (intOf v5).toNat)
  case atStart => exact ⟨0, rfl, Nat.zero_le _, Lib.hid (Below.refl _ _)⟩
  case round =>
    obtain ⟨i, rfl, hi, hb⟩ := hrel
    by_cases hlt : i < l.length
    · have hl1 : (i : Int) < (l.length : Int) := by omega
      obtain ⟨g1, k1, hv1, hg1, a0, a1', a2', a3, a4⟩ := (h1.out.below' hb.out).cells hlt
      obtain ⟨g2, k2, hv2, hg2, b0, b1, b2, b3, b4⟩ := (h2.out.below' hb.out).cells hlt
      injection hv1 with e1 e2 e3
      injection hv2 with e4 e5 e6
      subst e1 e3 e4 e6
      generalize (pat l i).id = q0 at a0 b0
      generalize (pat l i).src = q1 at a1' b1
      generalize (pat l i).dst = q2 at a2' b2
      generalize (pat l i).data = q3 at a3 b3
      generalize (pat l i).due = q4 at a4 b4
      go_wp2_with fail
      go_quiet (fail)
      have hb2 := Lib.hid (below_drewN hb.out nq)
      generalize wr.drewN nq = w2 at hb2 ⊢
      go_wp2_with fail
      go_roundw
      case rel => exact ⟨i + 1, by go_num, by omega, hb2⟩
      case measure => simp [intOf] <;> omega
    · have hl1 : (l.length : Int) ≤ (i : Int) := by omega
      go_wp2_with fail
      go_ret
      exact ⟨rfl, hb⟩
end Go.Proofs.Ytjopbglimjhefaa
