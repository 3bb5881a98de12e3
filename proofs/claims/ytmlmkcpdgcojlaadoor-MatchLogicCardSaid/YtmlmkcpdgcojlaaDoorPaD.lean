/- Split of the document; Section and Holds of both: walked. -/
import Derived.Test.YtmlmkcpdgcojlaaDoorPaC
namespace Go.Proofs.YtmlmkcpdgcojlaaDoor
open Go.RowKit

end Go.Proofs.YtmlmkcpdgcojlaaDoor
