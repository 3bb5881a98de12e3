/- Keys of a SEARCH: what they are in memory, how many kids each has; kids walked. -/
import Derived.Test.YtmlmkcpdgcojlaaDoorPaI
namespace Go.Proofs.YtmlmkcpdgcojlaaDoor
open Go.RowKit

/-- a key: its numbers, texts, and its set as a value -/
structure KeyD where
  kind : Int
  kids : Int
  field : ByteArray
  text : ByteArray
  n : Nat
  sa : Option Addr
  sn : Nat
  sc : Nat
  has : Nat → Nat → Bool
def KeyD.setv (k : KeyD) : Value := .slice k.sa k.sn k.sc
def keyCells (k : KeyD) : List Value := [.int .i64 k.kind, .int .i64 k.kids, .string k.field, .string k.text, .int .u64 k.n, .slice k.sa k.sn k.sc]
def keyV (k : KeyD) : Value := .agg #[.int .i64 k.kind, .int .i64 k.kids, .string k.field, .string k.text, .int .u64 k.n, .slice k.sa k.sn k.sc]
def kidsL (k : KeyD) : Int := if k.kind = 1 ∧ 1 ≤ k.kids then k.kids else if k.kind = 2 then 1 else if k.kind = 3 then 2 else if 4 ≤ k.kind ∧ k.kind ≤ 13 then 0 else -1
set_option maxHeartbeats 1000000 in
theorem kids_any (k : KeyD) (w : World) :
    Calls Tryd.prog 14 #[keyV k] w fun e w' => e = .returned (.int .i64 (kidsL k)) ∧ Hid (Below w.heap.size w w') := by
  obtain ⟨kind, kids, field, text, n, sa, sn, sc, has⟩ := k
  unfold keyV
  dsimp only
  go_enter Tryd.func14, Tryd.ntmps14
  go_wp2_with fail
  all_goals (
    go_ret
    refine ⟨ret_int ?_, Lib.hid ((Below.refl _ w).alloc (Nat.le_refl _) _)⟩
    unfold kidsL
    dsimp only
    try simp only [beq_eq_false_iff_ne, ne_eq, beq_iff_eq] at *
    repeat' split
    all_goals first | rfl | omega | (exfalso; omega))
end Go.Proofs.YtmlmkcpdgcojlaaDoor
