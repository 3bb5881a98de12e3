/- MailOnce: walked. (written by tools/gen_MoB.py) -/
import Derived.Test.YtdobbfjmlnlieaaGreatB32
import Derived.Test.YtdobbfjmlnlieaaGreatB31
import Derived.Test.YtdobbfjmlnlieaaGreatB33
namespace Go.Proofs.YtdobbfjmlnlieaaGreat
set_option linter.unusedSimpArgs false
open Go.RowKit
attribute [local go_sem ↓] Go.wp_at_zero Go.wp_at_succ

theorem BegunRet.rightL {W w' : World} {m : Ml} {v : Value} {e : Ending} {L : List Nat} (h : BegunRet W m v e w') (hs : Stay (okL L) W fun x => MlIn x v m) (hL : ∀ b ∈ L, b < W.heap.size) : ∃ (C : List Value) (m0 : Ml), e = .returned (.agg C.toArray) ∧ RightP m0 ∧ Stay (okL L) w' (fun x => MlIn x (.agg C.toArray) m0) ∧ Below W.heap.size W w' := by
  obtain ⟨v', rfl, h1, hb⟩ := h
  have key : ∃ m0, RightP m0 ∧ Stay (okL L) w' (fun x => MlIn x v' m0) := by
    rcases h1.out with ⟨hr, rfl⟩ | ⟨-, hn⟩
    · exact ⟨m, hr, hs.below hb.out⟩
    · exact ⟨newM, right_new, hn.okL hL⟩
  obtain ⟨m0, hr, hst⟩ := key
  obtain ⟨ab, cb, nb, ah, ch, as_, cs, rfl⟩ := hst.now.out_
  exact ⟨[.slice ab nb cb, .int .u64 m0.nv, .slice ah m0.homes.length ch, .slice as_ m0.seats.length cs, .int .u64 m0.ns, .int .u64 m0.sweeps], m0, rfl, hr, hst, hb.out⟩
/-- the state, the request and what came of it, each in its block -/
def On3 (W : World) (MB RB OB : Nat) (q : Rq) (y : RqV) (m : Ml) (O : List Value) (wx : World) : Prop := ∃ C : List Value, Zoo W wx [boxT OB O.toArray 35, boxT RB (rqCells q y).toArray 41, boxT MB C.toArray 27] ∧ Stay (okL [MB, OB]) wx (fun x => MlIn x (.agg C.toArray) m)
end Go.Proofs.YtdobbfjmlnlieaaGreat
