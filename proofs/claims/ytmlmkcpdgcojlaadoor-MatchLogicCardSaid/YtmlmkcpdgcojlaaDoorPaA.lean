/- Messages, plain pieces; 'at' of the document: walked. -/
import Derived.Test.YtmlmkcpdgcojlaaDoorPaU
import Derived.Test.YtmlmkcpdgcojlaaDoorRd
namespace Go.Proofs.YtmlmkcpdgcojlaaDoor
open Go.RowKit

/-- does u stand at place i of s? -/
def atL (s : List UInt8) (i : Nat) (u : List UInt8) : Bool := u.isPrefixOf (s.drop i)
theorem prefix_take : ∀ (u l : List UInt8), u.isPrefixOf l = (l.take u.length == u)
  | [], l => by simp
  | x :: u, [] => by simp
  | x :: u, y :: l => by
    have ih := prefix_take u l
    rw [Bool.eq_iff_iff] at ih ⊢
    rw [beq_iff_eq] at ih ⊢
    rw [List.length_cons, List.take_succ_cons, List.cons.injEq, List.isPrefixOf, Bool.and_eq_true, ih, beq_iff_eq, eq_comm]
theorem prefix_short (u l : List UInt8) (h : l.length < u.length) : u.isPrefixOf l = false := by
  rw [prefix_take]
  rw [beq_eq_false_iff_ne]
  intro e
  have := congrArg List.length e
  rw [List.length_take] at this; omega
end Go.Proofs.YtmlmkcpdgcojlaaDoor
