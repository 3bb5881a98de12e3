/- Messages, plain pieces; 'at' of the document: walked. -/
import Derived.Test.YtgijkpbeokclkaaDoorPaU
import Derived.Test.YtgijkpbeokclkaaDoorRd
namespace Go.Proofs.YtgijkpbeokclkaaDoor
open Go.RowKit

/-- does u stand at place i of s? -/
def atL (s : List UInt8) (i : Nat) (u : List UInt8) : Bool := u.isPrefixOf (s.drop i)
theorem prefix_take : ∀ (u l : List UInt8), u.isPrefixOf l = (l.take u.length == u)
  | [], l => by simp
  | x :: u, [] => by simp
  | x :: u, y :: l => by
    have ih := prefix_take u l
    rw [Bool.eq_iff_iff] at ih ⊢
    rw [beq_iff_eq] at ih ⊢
    rw [List.length_cons, List.take_succ_cons, List.cons.injEq, List.isPrefixOf, Bool.and_eq_true, ih, beq_iff_eq, eq_comm]
theorem prefix_short (u l : List UInt8) (h : l.length < u.length) : u.isPrefixOf l = false := by
  rw [prefix_take]
  rw [beq_eq_false_iff_ne]
  intro e
  have := congrArg List.length e
  rw [List.length_take] at this; omega
set_option maxHeartbeats 1000000 in
theorem at_any (s u : ByteArray) (i : Nat) (hs : s.size ≤ 140737488355328) (hu : u.size ≤ 140737488355328) (hi : i ≤ 140737488355328) (w : World) :
    Calls Tryd.prog 22 #[.string s, .int .i64 i, .string u] w fun e w' => e = .returned (.bool (decide (i ≤ s.size) && atL s.data.toList i u.data.toList)) ∧ w = w' := by
  have hsl : s.data.toList.length = s.size := rfl
  have hul : u.data.toList.length = u.size := rfl
  by_cases h1 : i ≤ s.size
  · by_cases h2 : i + u.size ≤ s.size
    · have hq : ((s.extract i (i + u.size)).toList == u.toList) = atL s.data.toList i u.data.toList := by
        rw [ByteArray.toList_eq, ByteArray.toList_eq, Lib.extract_data, atL, prefix_take, hul, show i + u.size - i = u.size by omega]
      have hR : Hid ((decide (i ≤ s.size) && atL s.data.toList i u.data.toList) = atL s.data.toList i u.data.toList) := Lib.hid (by rw [decide_eq_true h1]; rfl)
      rw [hR.out]
      generalize atL s.data.toList i u.data.toList = B at hq ⊢
      clear hR hsl hul
      go_enter Tryd.func22, Tryd.ntmps22
      go_wp2_with fail
      go_ret
      exact ⟨rfl, rfl⟩
    · have hR : Hid ((decide (i ≤ s.size) && atL s.data.toList i u.data.toList) = false) := Lib.hid (by
        rw [atL, prefix_short _ _ (by rw [List.length_drop]; omega)]; simp)
      rw [hR.out]
      clear hR hsl hul
      go_enter Tryd.func22, Tryd.ntmps22
      go_wp2_with fail
      go_ret
      exact ⟨rfl, rfl⟩
  · have hR : Hid ((decide (i ≤ s.size) && atL s.data.toList i u.data.toList) = false) := Lib.hid (by rw [decide_eq_false h1]; rfl)
    rw [hR.out]
    clear hR hsl hul
    go_enter Tryd.func22, Tryd.ntmps22
    go_wp2_with fail
    go_ret
    exact ⟨rfl, rfl⟩
end Go.Proofs.YtgijkpbeokclkaaDoor
