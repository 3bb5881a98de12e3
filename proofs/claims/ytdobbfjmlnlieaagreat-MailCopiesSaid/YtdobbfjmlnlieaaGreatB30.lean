/- SameBox: walked. (written by tools/gen_MnS.py out of MnC) hash, of the digit two: walked. (written by tools/gen_MnT.py out of MmQ) A state whose numbers are used up: plain. -/
import Derived.Test.YtdobbfjmlnlieaaGreatB22
import Derived.Test.YtdobbfjmlnlieaaGreatB27
namespace Go.Proofs.YtdobbfjmlnlieaaGreat
set_option linter.unusedSimpArgs false
open Go.RowKit
attribute [local go_sem ↓] Go.wp_at_zero Go.wp_at_succ

end Go.Proofs.YtdobbfjmlnlieaaGreat
namespace Go.Proofs.YtdobbfjmlnlieaaGreat
set_option linter.unusedSimpArgs false
open Go.RowKit
attribute [local go_sem ↓] Go.wp_at_zero Go.wp_at_succ

end Go.Proofs.YtdobbfjmlnlieaaGreat
namespace Go.Proofs.YtdobbfjmlnlieaaGreat
set_option linter.unusedSimpArgs false
open Go.RowKit

def h2B : ByteArray := mkB (hashL 2)
def spB (u s : Bool) : Bx := ⟨inB, 7, if u then 4294967296 else 9, if s then 9223372036854775807 else 9, [⟨3, [delL], 2, h1B, 0⟩, ⟨8, [], 9, h2B, 0⟩]⟩
def spM (u s : Bool) : Ml := ⟨[spB u s], 4294967296, [⟨1, 1, 1⟩], [⟨1, 4, 1, 1, 1⟩], 2, 0⟩
/-- what MailSpent asks of an answer -/
structure Sp (u s : Bool) (op : Int) (r : Ml × Oc) : Prop where
  one : r.1.boxes.length = 1
  cr : op = 4 → r.1.boxes = [spB u s] ∧ r.2.code ≠ 0
  ap : (op = 6 ∨ op = 9) → (u = true ∨ s = true) → r.1.boxes = [spB u s] ∧ r.2.uids = []
  st : (op = 7 ∨ op = 8) → s = true → r.1.boxes = [spB u s] ∧ (r.2.code ≠ 0 ∨ op = 7 ∨ r.2.uids = [])
  el : op ≠ 4 → op ≠ 6 → op ≠ 7 → op ≠ 8 → op ≠ 9 → r.1.boxes = [spB u s]
theorem Sp.err {u s : Bool} {op : Int} {m : Ml} {n : Int} (hm : m.boxes = [spB u s]) (hn : n ≠ 0) : Sp u s op (m, ocE n) := ⟨by rw [hm]; rfl, fun _ => ⟨hm, hn⟩, fun _ _ => ⟨hm, rfl⟩, fun _ _ => ⟨hm, .inl hn⟩, fun _ _ _ _ _ => hm⟩
/-- a deed's answer, ended -/
theorem Sp.fin {u s : Bool} {op : Int} {r : Int × Ml × Oc} (h0 : r.1 = 0 → Sp u s op (r.2.1, r.2.2)) (h1 : r.1 ≠ 0 → r.2.1.boxes = [spB u s]) : Sp u s op (finM r) := by
  unfold finM
  by_cases h : r.1 = 0
  · rw [if_pos h]; exact h0 h
  · rw [if_neg h]; exact .err (h1 h) h
end Go.Proofs.YtdobbfjmlnlieaaGreat
