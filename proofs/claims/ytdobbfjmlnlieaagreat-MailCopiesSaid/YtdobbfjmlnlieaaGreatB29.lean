/- ContainsFunc with the closure of mail's Right: walked. (written by tools/gen_MnI.py) mail's letterRight, asked about a letter that may be: walked. mail's boxRight, asked about a mailbox that may be: walked. (written by tools/gen_MnE.py) -/
import Derived.Test.YtdobbfjmlnlieaaGreatB19
import Derived.Laws.EntriesVeiled
import Derived.Test.YtdobbfjmlnlieaaGreatB22
namespace Go.Proofs.YtdobbfjmlnlieaaGreat
set_option linter.unusedSimpArgs false
open Go.RowKit

end Go.Proofs.YtdobbfjmlnlieaaGreat
namespace Go.Proofs.YtdobbfjmlnlieaaGreat
set_option linter.unusedSimpArgs false
open Go.RowKit
attribute [local go_sem ↓] Go.wp_at_zero Go.wp_at_succ

end Go.Proofs.YtdobbfjmlnlieaaGreat
namespace Go.Proofs.YtdobbfjmlnlieaaGreat
set_option linter.unusedSimpArgs false
open Go.RowKit
attribute [local go_sem ↓] Go.wp_at_zero Go.wp_at_succ

end Go.Proofs.YtdobbfjmlnlieaaGreat
