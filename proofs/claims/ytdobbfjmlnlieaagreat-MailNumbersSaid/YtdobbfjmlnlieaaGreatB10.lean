/- The document's Change: walked. -/
import Derived.Test.YtdobbfjmlnlieaaGreatB09
namespace Go.Proofs.YtdobbfjmlnlieaaGreat
open Go.RowKit

end Go.Proofs.YtdobbfjmlnlieaaGreat
