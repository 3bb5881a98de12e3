/- mail's seatsRight, asked about a right state: walked. (written by tools/gen_MnJ.py) mail.Right, asked about a right state: walked. (written by tools/gen_MnG.py) -/
import Derived.Test.YtdobbfjmlnlieaaGreatB29
import Derived.Test.YtdobbfjmlnlieaaGreatB20
import Derived.Test.YtdobbfjmlnlieaaGreatB22
import Derived.Test.YtdobbfjmlnlieaaGreatB21
namespace Go.Proofs.YtdobbfjmlnlieaaGreat
set_option linter.unusedSimpArgs false
open Go.RowKit
attribute [local go_sem ↓] Go.wp_at_zero Go.wp_at_succ

theorem MlIn.rows {W : World} {m : Ml} {ab ah as_ : Option Addr} {nb cb nv nh ch ns cs nse sw : Nat} (h : MlIn W (.agg #[.slice ab nb cb, .int .u64 nv, .slice ah nh ch, .slice as_ ns cs, .int .u64 nse, .int .u64 sw]) m) : HmsIn W (.slice ah nh ch) m.homes ∧ StsIn W (.slice as_ ns cs) m.seats := by
  obtain ⟨vb, vh, vs, bs, e, hbs, hib, hih, his⟩ := h
  unfold mlVal at e
  have e1 := congrArg (fun v => match v with | .agg a => (a[2]?, a[3]?) | _ => (none, none)) e
  simp at e1
  rw [e1.1, e1.2]
  exact ⟨hih, his⟩
end Go.Proofs.YtdobbfjmlnlieaaGreat
namespace Go.Proofs.YtdobbfjmlnlieaaGreat
set_option linter.unusedSimpArgs false
open Go.RowKit
attribute [local go_sem ↓] Go.wp_at_zero Go.wp_at_succ

end Go.Proofs.YtdobbfjmlnlieaaGreat
