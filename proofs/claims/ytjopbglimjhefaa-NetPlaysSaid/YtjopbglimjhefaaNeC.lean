/- Swap of flight: walked. -/
import Derived.Test.YtjopbglimjhefaaNeB
namespace Go.Proofs.Ytjopbglimjhefaa
open Go.RowKit

theorem cells_set {W : World} {g : Nat} {C : List Value} {t : TypeId} (h : W.heap[g]? = some (.cells C.toArray t (0, 0))) (j : Nat) (v : Value) : (W.setCell ⟨g, j, none⟩ v).heap[g]? = some (.cells (C.set j v).toArray t (0, 0)) := by
  simp only [World.setCell, Array.getElem?_modify, h, if_true, Option.map_some]
  rw [← List.setIfInBounds_toArray]
  rfl
theorem PRow.put {W : World} {g : Nat} {l : List Pk} {rest : List Value} (h : PRow W g l rest) (j : Nat) (hj : j < l.length) (p : Pk) : PRow (putPk W g j p) g (l.set j p) rest := by
  have h0 : W.heap[g]? = _ := h
  have hlen : (rowCells l).length = l.length * 5 := rowCells_len l
  have hl2 : (rowCells (l.set j p)).length = l.length * 5 := by rw [rowCells_len, List.length_set]
  have e : ((((((rowCells l ++ rest).set (j * 5) (.int .i64 p.id)).set (j * 5 + 1) (.int .i64 p.src)).set (j * 5 + 2) (.int .i64 p.dst)).set (j * 5 + 3) (.string p.data)).set (j * 5 + 4) (.int .i64 p.due)) = rowCells (l.set j p) ++ rest := by
    apply List.ext_getElem?
    intro i
    simp only [List.getElem?_set, List.length_set, List.length_append, hlen]
    by_cases hi : i < l.length * 5
    · obtain ⟨m, r, hr, rfl⟩ : ∃ m r, r < 5 ∧ i = m * 5 + r := ⟨i / 5, i % 5, Nat.mod_lt _ (by decide), by omega⟩
      rw [List.getElem?_append_left (by omega), List.getElem?_append_left (by omega), rowCells_get l m (by omega) r hr, rowCells_get (l.set j p) m (by rw [List.length_set]; omega) r hr]
      by_cases hm : j = m
      · subst hm
        rw [List.getElem_set_self]
        have h5 : r = 0 ∨ r = 1 ∨ r = 2 ∨ r = 3 ∨ r = 4 := by omega
        rcases h5 with rfl | rfl | rfl | rfl | rfl
        all_goals simp [pkCells]
        all_goals omega
      · rw [List.getElem_set_ne hm]
        rw [if_neg (by omega), if_neg (by omega), if_neg (by omega), if_neg (by omega), if_neg (by omega)]
    · rw [List.getElem?_append_right (by omega), List.getElem?_append_right (by omega), hlen, hl2]
      rw [if_neg (by omega), if_neg (by omega), if_neg (by omega), if_neg (by omega), if_neg (by omega)]
  unfold PRow putPk
  rw [← e]
  exact cells_set (cells_set (cells_set (cells_set (cells_set h0 _ _) _ _) _ _) _ _) _ _
set_option maxRecDepth 100000 in
set_option maxHeartbeats 4000000 in
theorem swap_any (g cap : Nat) (l : List Pk) (rest : List Value) (i k : Nat) (hi : i < l.length) (hk : k < l.length) (W : World) (hr : PRow W g l rest) :
    Calls Try.prog 81 #[.slice (some ⟨g, 0, none⟩) l.length cap, .int .i64 i, .int .i64 k] W fun e w' => e = .returned (.tuple #[]) ∧ ∃ q, w' = (putPk (putPk W g i (pat l k)) g k (pat l i)).drewN q := by
  obtain ⟨a0, a1, a2, a3, a4⟩ := hr.cells i hi
  obtain ⟨b0, b1, b2, b3, b4⟩ := hr.cells k hk
  have fi := hr.free (i * 5)
  have fi1 := hr.free (i * 5 + 1)
  have fi2 := hr.free (i * 5 + 2)
  have fi3 := hr.free (i * 5 + 3)
  have fi4 := hr.free (i * 5 + 4)
  have fk := hr.free (k * 5)
  have fk1 := hr.free (k * 5 + 1)
  have fk2 := hr.free (k * 5 + 2)
  have fk3 := hr.free (k * 5 + 3)
  have fk4 := hr.free (k * 5 + 4)
  have hi1 : (i : Int) < (l.length : Int) := by omega
  have hk1 : (k : Int) < (l.length : Int) := by omega
  clear hr
  unfold putPk
  generalize pat l i = p at a0 a1 a2 a3 a4 ⊢
  generalize pat l k = r at b0 b1 b2 b3 b4 ⊢
  obtain ⟨e00, d00⟩ := cell?_setCell_some (p := ⟨g, i * 5, none⟩) (x := .int .i64 r.id) b0
  obtain ⟨e10, d10⟩ := cell?_setCell_some (p := ⟨g, i * 5, none⟩) (x := .int .i64 r.id) b1
  obtain ⟨e11, d11⟩ := cell?_setCell_some (p := ⟨g, i * 5 + 1, none⟩) (x := .int .i64 r.src) d10
  obtain ⟨e20, d20⟩ := cell?_setCell_some (p := ⟨g, i * 5, none⟩) (x := .int .i64 r.id) b2
  obtain ⟨e21, d21⟩ := cell?_setCell_some (p := ⟨g, i * 5 + 1, none⟩) (x := .int .i64 r.src) d20
  obtain ⟨e22, d22⟩ := cell?_setCell_some (p := ⟨g, i * 5 + 2, none⟩) (x := .int .i64 r.dst) d21
  obtain ⟨e30, d30⟩ := cell?_setCell_some (p := ⟨g, i * 5, none⟩) (x := .int .i64 r.id) b3
  obtain ⟨e31, d31⟩ := cell?_setCell_some (p := ⟨g, i * 5 + 1, none⟩) (x := .int .i64 r.src) d30
  obtain ⟨e32, d32⟩ := cell?_setCell_some (p := ⟨g, i * 5 + 2, none⟩) (x := .int .i64 r.dst) d31
  obtain ⟨e33, d33⟩ := cell?_setCell_some (p := ⟨g, i * 5 + 3, none⟩) (x := .string r.data) d32
  obtain ⟨e40, d40⟩ := cell?_setCell_some (p := ⟨g, i * 5, none⟩) (x := .int .i64 r.id) b4
  obtain ⟨e41, d41⟩ := cell?_setCell_some (p := ⟨g, i * 5 + 1, none⟩) (x := .int .i64 r.src) d40
  obtain ⟨e42, d42⟩ := cell?_setCell_some (p := ⟨g, i * 5 + 2, none⟩) (x := .int .i64 r.dst) d41
  obtain ⟨e43, d43⟩ := cell?_setCell_some (p := ⟨g, i * 5 + 3, none⟩) (x := .string r.data) d42
  obtain ⟨e44, d44⟩ := cell?_setCell_some (p := ⟨g, i * 5 + 4, none⟩) (x := .int .i64 r.due) d43
  go_enter Try.func81, Try.ntmps81
  go_wp2_with fail
  go_region
  go_wp2_with fail
  go_end0
  exact ⟨rfl, 1, rfl⟩
/-- all that lay in W0 lies as it lay, but for block g -/
def Kept1 (W0 : World) (g : Nat) (W : World) : Prop := W.os = W0.os ∧ W.tape = W0.tape ∧ W.output = W0.output ∧ W0.heap.size ≤ W.heap.size ∧ ∀ k, k < W0.heap.size → k ≠ g → W.heap[k]? = W0.heap[k]?
theorem Kept1.refl (W : World) (g : Nat) : Kept1 W g W := ⟨rfl, rfl, rfl, Nat.le_refl _, fun _ _ _ => rfl⟩
theorem Kept1.trans {W0 W W2 : World} {g : Nat} (h : Kept1 W0 g W) (k : Kept1 W g W2) : Kept1 W0 g W2 :=
  ⟨k.1.trans h.1, k.2.1.trans h.2.1, k.2.2.1.trans h.2.2.1, Nat.le_trans h.2.2.2.1 k.2.2.2.1, fun x hx h1 => (k.2.2.2.2 x (Nat.lt_of_lt_of_le hx h.2.2.2.1) h1).trans (h.2.2.2.2 x hx h1)⟩
theorem Kept1.set {W0 W : World} {g : Nat} (h : Kept1 W0 g W) (j : Nat) (v : Value) : Kept1 W0 g (W.setCell ⟨g, j, none⟩ v) :=
  ⟨h.1, h.2.1, h.2.2.1, by have := h.2.2.2.1; simpa using this, fun k hk h1 => by
    rw [heap_setCell_other W ⟨g, j, none⟩ k v h1]
    exact h.2.2.2.2 k hk h1⟩
theorem Kept1.put {W0 W : World} {g : Nat} (h : Kept1 W0 g W) (j : Nat) (p : Pk) : Kept1 W0 g (putPk W g j p) := ((((h.set _ _).set _ _).set _ _).set _ _).set _ _
theorem Kept1.drewN {W0 W : World} {g : Nat} (h : Kept1 W0 g W) (n : Nat) : Kept1 W0 g (W.drewN n) := ⟨h.1, h.2.1, h.2.2.1, h.2.2.2.1, h.2.2.2.2⟩
theorem Kept1.cell {W0 W : World} {g : Nat} (h : Kept1 W0 g W) {b j : Nat} {v : Value} (hb : b ≠ g) (hc : W0.cell? ⟨b, j, none⟩ = some v) : W.cell? ⟨b, j, none⟩ = some v := by
  have hlt : b < W0.heap.size := World.block_lt_of_cell? W0 ⟨b, j, none⟩ hc
  have := h.2.2.2.2 b hlt hb
  simp only [World.cell?, this] at hc ⊢
  exact hc
theorem swap_rel (g cap : Nat) (l : List Pk) (rest : List Value) (i k : Nat) (hi : i < l.length) (hk : k < l.length) (W : World) (hr : PRow W g l rest) :
    Calls Try.prog 81 #[.slice (some ⟨g, 0, none⟩) l.length cap, .int .i64 i, .int .i64 k] W fun e w' => e = .returned (.tuple #[]) ∧ PRow w' g (pswp l i k) rest ∧ Kept1 W g w' := by
  refine (swap_any g cap l rest i k hi hk W hr).mono ?_
  rintro e w' ⟨rfl, q, rfl⟩
  refine ⟨rfl, PRow.drewN ?_ q, Kept1.drewN (((Kept1.refl W g).put _ _).put _ _) q⟩
  exact (hr.put i hi (pat l k)).put k (by rw [List.length_set]; exact hk) (pat l i)
end Go.Proofs.Ytjopbglimjhefaa
