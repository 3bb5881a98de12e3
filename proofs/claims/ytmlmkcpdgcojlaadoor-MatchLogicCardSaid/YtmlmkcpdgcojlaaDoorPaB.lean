/- Cut of the program: walked. -/
import Derived.Test.YtmlmkcpdgcojlaaDoorPaA
namespace Go.Proofs.YtmlmkcpdgcojlaaDoor
open Go.RowKit

def cutL (s : List UInt8) (f c : Nat) : List UInt8 := (s.drop f).take c
end Go.Proofs.YtmlmkcpdgcojlaaDoor
