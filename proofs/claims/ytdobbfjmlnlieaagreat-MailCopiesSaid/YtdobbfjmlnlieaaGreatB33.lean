/- The document's Same, asked about two states: walked. (written by tools/gen_MnX.py) SameOutcome, asked about two outcomes that are the same: walked. -/
import Derived.Test.YtdobbfjmlnlieaaGreatB30
import Derived.Test.YtdobbfjmlnlieaaGreatB25
import Derived.Test.YtdobbfjmlnlieaaGreatB22
namespace Go.Proofs.YtdobbfjmlnlieaaGreat
set_option linter.unusedSimpArgs false
open Go.RowKit
attribute [local go_sem ↓] Go.wp_at_zero Go.wp_at_succ

theorem bel_heap0 {w w' : World} (h : Below w.heap.size w w') {B : Nat} {o : Obj} (ho : w.heap[B]? = some o) : w'.heap[B]? = some o := (h.block B (Array.getElem?_eq_some_iff.1 ho).1).trans ho
/-- a yes or a no; a yes, if P -/
def YesIf (P : Prop) (W : World) (e : Ending) (w' : World) : Prop := ∃ B, e = .returned (.bool B) ∧ Hid (P → B = true) ∧ Hid (Below W.heap.size W w')
structure SameSz (m : Ml) : Prop where
  b : m.boxes.length ≤ 100000
  s : m.seats.length ≤ 100000
  h : m.homes.length ≤ 100000
  l : ∀ b ∈ m.boxes, b.letters.length ≤ 1000000
  f : ∀ b ∈ m.boxes, ∀ x ∈ b.letters, x.flags.length ≤ 10000
end Go.Proofs.YtdobbfjmlnlieaaGreat
namespace Go.Proofs.YtdobbfjmlnlieaaGreat
set_option linter.unusedSimpArgs false
open Go.RowKit
attribute [local go_sem ↓] Go.wp_at_zero Go.wp_at_succ

end Go.Proofs.YtdobbfjmlnlieaaGreat
