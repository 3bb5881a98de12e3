/- Packets in memory, five cells each; Less and Swap of flight: walked. -/
import Derived.Test.YtjopbglimjhefaaNeA
import Derived.Test.YtjopbglimjhefaaChecked
import Derived.BigRegion
import Derived.BigQuiet
import Derived.Deep.QuietTactic
namespace Go.Proofs.Ytjopbglimjhefaa
open Go.RowKit

def pkCells (p : Pk) : List Value := [.int .i64 p.id, .int .i64 p.src, .int .i64 p.dst, .string p.data, .int .i64 p.due]
def rowCells (l : List Pk) : List Value := l.flatMap pkCells
theorem rowCells_len : ∀ (l : List Pk), (rowCells l).length = l.length * 5
  | [] => rfl
  | k :: r => by
    have := rowCells_len r
    unfold rowCells at this ⊢
    rw [List.flatMap_cons, List.length_append, this, List.length_cons]
    show 5 + _ = _
    omega
theorem rowCells_app (a b : List Pk) : rowCells (a ++ b) = rowCells a ++ rowCells b := List.flatMap_append
theorem rowCells_get : ∀ (l : List Pk) (j : Nat) (hj : j < l.length) (r : Nat), r < 5 → (rowCells l)[j * 5 + r]? = (pkCells l[j])[r]?
  | k :: l, 0, _, r, hr => by
    unfold rowCells
    rw [List.flatMap_cons, List.getElem?_append_left (by show _ < 5; omega)]
    simp
  | k :: l, j + 1, hj, r, hr => by
    have := rowCells_get l j (by simpa using hj) r hr
    unfold rowCells at this ⊢
    rw [List.flatMap_cons, List.getElem?_append_right (by show 5 ≤ _; omega), List.getElem_cons_succ, ← this]
    congr 1
    show (j + 1) * 5 + r - 5 = _
    omega
/-- block g is a row of the packets l, and what lies behind -/
def PRow (W : World) (g : Nat) (l : List Pk) (rest : List Value) : Prop := W.heap[g]? = some (.cells (rowCells l ++ rest).toArray 30 (0, 0))
theorem cell_at {W : World} {b : Nat} {C : Array Value} {t : TypeId} (h : W.heap[b]? = some (.cells C t (0, 0))) (j : Nat) : W.cell? ⟨b, j, none⟩ = C[j]? := by simp [World.cell?, h]
theorem PRow.cell {W : World} {g : Nat} {l : List Pk} {rest : List Value} (h : PRow W g l rest) (j r : Nat) (hj : j < l.length) (hr : r < 5) : W.cell? ⟨g, j * 5 + r, none⟩ = (pkCells (pat l j))[r]? := by
  rw [cell_at h (j * 5 + r), pat_lt hj]
  simp only [List.getElem?_toArray]
  rw [List.getElem?_append_left (by rw [rowCells_len]; omega), rowCells_get l j hj r hr]
theorem PRow.free {W : World} {g : Nat} {l : List Pk} {rest : List Value} (h : PRow W g l rest) (j : Nat) : W.frozen? ⟨g, j, none⟩ = false := by
  simp [World.frozen?, show W.heap[g]? = _ from h]
theorem PRow.drewN {W : World} {g : Nat} {l : List Pk} {rest : List Value} (h : PRow W g l rest) (n : Nat) : PRow (W.drewN n) g l rest := h
theorem PRow.drew {W : World} {g : Nat} {l : List Pk} {rest : List Value} (h : PRow W g l rest) : PRow W.drew g l rest := h
theorem PRow.cells {W : World} {g : Nat} {l : List Pk} {rest : List Value} (h : PRow W g l rest) (j : Nat) (hj : j < l.length) :
    W.cell? ⟨g, j * 5, none⟩ = some (.int .i64 (pat l j).id) ∧ W.cell? ⟨g, j * 5 + 1, none⟩ = some (.int .i64 (pat l j).src) ∧ W.cell? ⟨g, j * 5 + 2, none⟩ = some (.int .i64 (pat l j).dst) ∧ W.cell? ⟨g, j * 5 + 3, none⟩ = some (.string (pat l j).data) ∧ W.cell? ⟨g, j * 5 + 4, none⟩ = some (.int .i64 (pat l j).due) :=
  ⟨h.cell j 0 hj (by decide), h.cell j 1 hj (by decide), h.cell j 2 hj (by decide), h.cell j 3 hj (by decide), h.cell j 4 hj (by decide)⟩
def putPk (W : World) (g j : Nat) (p : Pk) : World := ((((W.setCell ⟨g, j * 5, none⟩ (.int .i64 p.id)).setCell ⟨g, j * 5 + 1, none⟩ (.int .i64 p.src)).setCell ⟨g, j * 5 + 2, none⟩ (.int .i64 p.dst)).setCell ⟨g, j * 5 + 3, none⟩ (.string p.data)).setCell ⟨g, j * 5 + 4, none⟩ (.int .i64 p.due)
theorem drewN_two (w : World) (n m : Nat) : (w.drewN n).drewN m = w.drewN (n + m) := by
  unfold World.drewN
  simp only [Nat.add_assoc]
theorem bne_t {a b : Int} (h : (a == b) = false) : (a != b) = true := by simp only [bne, h]; rfl
set_option maxRecDepth 100000 in
set_option maxHeartbeats 4000000 in
theorem less_any (g cap : Nat) (l : List Pk) (rest : List Value) (i k : Nat) (hi : i < l.length) (hk : k < l.length) (W : World) (hr : PRow W g l rest) :
    Calls Try.prog 80 #[.slice (some ⟨g, 0, none⟩) l.length cap, .int .i64 i, .int .i64 k] W fun e w' => e = .returned (.bool (decide (ltP (pat l i) (pat l k)))) ∧ ∃ q, w' = W.drewN q := by
  obtain ⟨a0, -, -, -, a4⟩ := hr.cells i hi
  obtain ⟨b0, -, -, -, b4⟩ := hr.cells k hk
  have hi1 : (i : Int) < (l.length : Int) := by omega
  have hk1 : (k : Int) < (l.length : Int) := by omega
  clear hr
  have main : Calls Try.prog 80 #[.slice (some ⟨g, 0, none⟩) l.length cap, .int .i64 i, .int .i64 k] W fun e w' => ∃ x : Bool, e = .returned (.bool x) ∧ (x = true ↔ ltP (pat l i) (pat l k)) ∧ ∃ q, w' = W.drewN q := by
    unfold ltP
    generalize pat l i = p at a4 a0 ⊢
    generalize pat l k = r at b4 b0 ⊢
    generalize p.due = pd at a4 ⊢
    generalize r.due = rd at b4 ⊢
    generalize p.id = pi at a0 ⊢
    generalize r.id = ri at b0 ⊢
    clear p r
    by_cases h : pd = rd
    · subst h
      go_enter Try.func80, Try.ntmps80
      go_wp2_with fail
      go_quiet (fail)
      have a0 : (W.drewN nq).cell? ⟨g, i * 5, none⟩ = some (.int .i64 pi) := a0
      have b0 : (W.drewN nq).cell? ⟨g, k * 5, none⟩ = some (.int .i64 ri) := b0
      generalize hw : W.drewN nq = w2 at a0 b0 ⊢
      replace hw := Lib.hid hw
      go_wp2_with fail
      go_quiet (fail)
      go_wp2_with fail
      go_ret
      exact ⟨_, rfl, by simp, _, by rw [← hw.out]; exact drewN_two _ _ _⟩
    · have h0 : (pd == rd) = false := by simpa using h
      have h' := bne_t h0
      go_enter Try.func80, Try.ntmps80
      go_wp2_with fail
      go_quiet (fail)
      have a4 : (W.drewN nq).cell? ⟨g, i * 5 + 4, none⟩ = some (.int .i64 pd) := a4
      have b4 : (W.drewN nq).cell? ⟨g, k * 5 + 4, none⟩ = some (.int .i64 rd) := b4
      generalize hw : W.drewN nq = w2 at a4 b4 ⊢
      replace hw := Lib.hid hw
      go_wp2_with fail
      go_quiet (fail)
      go_wp2_with fail
      go_ret
      exact ⟨_, rfl, by simp [h], _, by rw [← hw.out]; exact drewN_two _ _ _⟩
  refine main.mono ?_
  rintro e w' ⟨x, rfl, hx, hq⟩
  refine ⟨?_, hq⟩
  congr 2
  cases x
  · exact (decide_eq_false (fun h => by simpa using hx.2 h)).symm
  · exact (decide_eq_true (hx.1 rfl)).symm
end Go.Proofs.Ytjopbglimjhefaa
