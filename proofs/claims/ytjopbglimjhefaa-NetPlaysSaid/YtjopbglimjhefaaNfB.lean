/- The document's net as a thing; link, at, Cut, Same: walked. -/
import Derived.Test.YtjopbglimjhefaaNfA
namespace Go.Proofs.Ytjopbglimjhefaa
open Go.RowKit Go.Maps Go.WideMaps

def refCells (v : Value) (r : Rs) : List Value := v :: .int .i64 r.now :: .int .i64 r.last :: r.cs.map Value.bool
structure RefAt (W : World) (b : Nat) (v : Value) (r : Rs) : Prop where
  blk : W.heap[b]? = some (.cells (refCells v r).toArray 44 (0, 0))
  own : OwnP W v r.l
  vb : v.ownBlock ≠ some b
  len : r.cs.length = 36
theorem RefAt.lt {W : World} {b : Nat} {v : Value} {r : Rs} (h : RefAt W b v r) : b < W.heap.size := (Array.getElem?_eq_some_iff.1 h.blk).1
theorem RefAt.same {W W' : World} {b : Nat} {v : Value} {r : Rs} (h : RefAt W b v r) (hk : ∀ k, (k = b ∨ v.ownBlock = some k) → W'.heap[k]? = W.heap[k]?) : RefAt W' b v r :=
  ⟨(hk b (.inl rfl)).trans h.blk, h.own.block (fun g hg => hk g (.inr hg)), h.vb, h.len⟩
theorem RefAt.below {W W' : World} {b : Nat} {v : Value} {r : Rs} (h : RefAt W b v r) (hb : Below W.heap.size W W') : RefAt W' b v r :=
  h.same (fun k hk => hb.block k (by
    rcases hk with rfl | hk
    · exact h.lt
    · exact h.own.lt hk))
theorem RefAt.c0 {W : World} {b : Nat} {v : Value} {r : Rs} (h : RefAt W b v r) : W.cell? ⟨b, 0, none⟩ = some v := (cell_at h.blk 0).trans rfl
theorem RefAt.c1 {W : World} {b : Nat} {v : Value} {r : Rs} (h : RefAt W b v r) : W.cell? ⟨b, 1, none⟩ = some (.int .i64 r.now) := (cell_at h.blk 1).trans rfl
theorem RefAt.c2 {W : World} {b : Nat} {v : Value} {r : Rs} (h : RefAt W b v r) : W.cell? ⟨b, 2, none⟩ = some (.int .i64 r.last) := (cell_at h.blk 2).trans rfl
theorem RefAt.cc {W : World} {b : Nat} {v : Value} {r : Rs} (h : RefAt W b v r) (i : Nat) (hi : i < 36) : W.cell? ⟨b, 3 + i, none⟩ = some (.bool (r.cs.getD i false)) := by
  rw [cell_at h.blk, List.getElem?_toArray, show 3 + i = i + 1 + 1 + 1 by omega]
  unfold refCells
  rw [List.getElem?_cons_succ, List.getElem?_cons_succ, List.getElem?_cons_succ, List.getElem?_map, List.getD_eq_getElem?_getD, List.getElem?_eq_getElem (by rw [h.len]; exact hi)]
  rfl
theorem RefAt.free {W : World} {b : Nat} {v : Value} {r : Rs} (h : RefAt W b v r) (j : Nat) : W.frozen? ⟨b, j, none⟩ = false := by simp [World.frozen?, h.blk]
def refFoot (b : Nat) (v : Value) : Foot := fun k => k = b ∨ v.ownBlock = some k
def refT (b : Nat) (r : Rs) : Th := ⟨fun F W => ∃ v, RefAt W b v r ∧ ∀ k, F k ↔ refFoot b v k,
  fun F W h k hk => by
    obtain ⟨v, hn, hF⟩ := h
    rcases (hF k).1 hk with rfl | h
    · exact hn.lt
    · exact hn.own.lt h,
  fun F W W' h hk => by
    obtain ⟨v, hn, hF⟩ := h
    exact ⟨v, hn.same (fun k h => hk k ((hF k).2 h)), hF⟩⟩
/-- all but the block b is as it was -/
structure RSame (W : World) (b : Nat) (W' : World) : Prop where
  os : W'.os = W.os
  tape : W'.tape = W.tape
  output : W'.output = W.output
  size : W.heap.size ≤ W'.heap.size
  block : ∀ k, k < W.heap.size → k ≠ b → W'.heap[k]? = W.heap[k]?
theorem RSame.of_below {W W' : World} (h : Below W.heap.size W W') (b : Nat) : RSame W b W' := ⟨h.os, h.tape, h.output, h.size, fun k hk _ => h.block k hk⟩
theorem RSame.trans {W W' W2 : World} {b : Nat} (h : RSame W b W') (k : RSame W' b W2) : RSame W b W2 :=
  ⟨k.os.trans h.os, k.tape.trans h.tape, k.output.trans h.output, Nat.le_trans h.size k.size, fun x hx h1 => (k.block x (Nat.lt_of_lt_of_le hx h.size) h1).trans (h.block x hx h1)⟩
theorem RSame.set {W W' : World} {b : Nat} (h : RSame W b W') (j : Nat) (v : Value) : RSame W b (W'.setCell ⟨b, j, none⟩ v) :=
  ⟨h.os, h.tape, h.output, by simpa using h.size, fun k hk h1 => (heap_setCell_other W' ⟨b, j, none⟩ k _ h1).trans (h.block k hk h1)⟩
theorem grows_ref {W W' : World} {b : Nat} {v v' : Value} {F : Foot} (hF : ∀ k, F k ↔ refFoot b v k) (h : RSame W b W') (hl : Later W v v') : Grows F W (refFoot b v') W' :=
  ⟨h.os, h.tape, h.output, h.size, fun k hk hn => h.block k hk (fun e => hn ((hF k).2 (.inl e))), fun k hk => by
    rcases hk with e | e
    · exact .inl ((hF k).2 (.inl e))
    · rcases hl k e with q | q
      · exact .inl ((hF k).2 (.inr q))
      · exact .inr q⟩
theorem OwnP.kept' {W W' : World} {b : Nat} {v : Value} {l : List Pk} (h : OwnP W v l) (hs : RSame W b W') (hv : v.ownBlock ≠ some b) : OwnP W' v l :=
  h.block (fun g hg => hs.block g (h.lt hg) (fun e => hv (e ▸ hg)))
theorem RefAt.setNow {W : World} {b : Nat} {v : Value} {r : Rs} (h : RefAt W b v r) (n : Nat) : RefAt (W.setCell ⟨b, 1, none⟩ (.int .i64 n)) b v ⟨r.l, n, r.last, r.cs⟩ ∧ RSame W b (W.setCell ⟨b, 1, none⟩ (.int .i64 n)) := by
  have hS := (RSame.of_below (Below.refl _ W) b).set 1 (.int .i64 n)
  exact ⟨⟨cells_set h.blk 1 _, h.own.kept' hS h.vb, h.vb, h.len⟩, hS⟩
theorem RefAt.setLast {W : World} {b : Nat} {v : Value} {r : Rs} (h : RefAt W b v r) (n : Nat) : RefAt (W.setCell ⟨b, 2, none⟩ (.int .i64 n)) b v ⟨r.l, r.now, n, r.cs⟩ ∧ RSame W b (W.setCell ⟨b, 2, none⟩ (.int .i64 n)) := by
  have hS := (RSame.of_below (Below.refl _ W) b).set 2 (.int .i64 n)
  exact ⟨⟨cells_set h.blk 2 _, h.own.kept' hS h.vb, h.vb, h.len⟩, hS⟩
theorem RefAt.setL {W : World} {b : Nat} {v v' : Value} {r : Rs} {l' : List Pk} (h : RefAt W b v r) (ho : OwnP W v' l') (hv : v'.ownBlock ≠ some b) : RefAt (W.setCell ⟨b, 0, none⟩ v') b v' ⟨l', r.now, r.last, r.cs⟩ ∧ RSame W b (W.setCell ⟨b, 0, none⟩ v') := by
  have hS := (RSame.of_below (Below.refl _ W) b).set 0 v'
  exact ⟨⟨cells_set h.blk 0 _, ho.kept' hS hv, hv, h.len⟩, hS⟩
theorem RefAt.setC {W : World} {b : Nat} {v : Value} {r : Rs} (h : RefAt W b v r) (i : Nat) (c : Bool) : RefAt (W.setCell ⟨b, 3 + i, none⟩ (.bool c)) b v ⟨r.l, r.now, r.last, r.cs.set i c⟩ ∧ RSame W b (W.setCell ⟨b, 3 + i, none⟩ (.bool c)) := by
  have hS := (RSame.of_below (Below.refl _ W) b).set (3 + i) (.bool c)
  refine ⟨⟨?_, h.own.kept' hS h.vb, h.vb, by simpa using h.len⟩, hS⟩
  have := cells_set h.blk (3 + i) (.bool c)
  rw [this]
  have e : (refCells v r).set (3 + i) (.bool c) = refCells v ⟨r.l, r.now, r.last, r.cs.set i c⟩ := by
    unfold refCells
    rw [show 3 + i = i + 1 + 1 + 1 by omega, List.set_cons_succ, List.set_cons_succ, List.set_cons_succ, List.map_set]
  rw [e]
set_option maxRecDepth 100000 in
set_option maxHeartbeats 4000000 in
theorem refLink_any (a b : Int) (W : World) : Calls Try.prog 41 #[.int .i64 a, .int .i64 b] W fun e w' => e = .returned (.bool (linkB a b)) ∧ W = w' := by
  go_enter Try.func41, Try.ntmps41
  go_wp2_with fail
  all_goals
    go_ret
    refine ⟨ret_bool ?_, rfl⟩
    rw [Bool.eq_iff_iff]
    unfold linkB
    simp
    try omega
set_option maxRecDepth 100000 in
set_option maxHeartbeats 4000000 in
theorem refCut_any (b : Nat) (v : Value) (r : Rs) (x y : Int) (c : Bool) (W : World) (h : RefAt W b v r) :
    Calls Try.prog 32 #[.pointer (some ⟨b, 0, none⟩), .int .i64 x, .int .i64 y, .bool c] W fun e w' => e = .returned (.int .i64 (cutR r x y c).1) ∧ Hid (RefAt w' b v (cutR r x y c).2) ∧ Hid (RSame W b w') := by
  have hlk := refLink_any x y W
  cases hq : linkB x y
  · have e1 : cutR r x y c = (1, r) := by unfold cutR; rw [hq]; rfl
    rw [hq] at hlk
    rw [e1]
    replace h := Lib.hid h
    replace hlk := Lib.hid hlk
    clear hq e1
    go_enter Try.func32, Try.ntmps32
    go_wp2_with fail
    refine hlk.out.mono ?_
    rintro e w1 ⟨rfl, rfl⟩
    go_wp2_with fail
    go_ret
    exact ⟨rfl, h, Lib.hid (RSame.of_below (Below.refl _ _) b)⟩
  · have e1 : cutR r x y c = (0, ⟨r.l, r.now, r.last, (r.cs.set (cutI x y) c).set (cutI y x) c⟩) := by unfold cutR; rw [if_pos hq]
    have hx := hq
    unfold linkB at hx
    simp only [decide_eq_true_eq] at hx
    obtain ⟨x1, x2, y1, y2, hxy⟩ := hx
    have h1 := h.setC (cutI x y) c
    have h2 := h1.1.setC (cutI y x) c
    have hend := Lib.hid h2.1
    have hS := Lib.hid (h1.2.trans h2.2)
    rw [e1]
    rw [hq] at hlk
    replace hlk := Lib.hid hlk
    have g1 := h.cc (cutI x y) (cutI_lt hq)
    have g2 := h1.1.cc (cutI y x) (cutI_lt (linkB_swap hq))
    have f1 := h.free
    clear h1 h2 e1
    unfold cutI at *
    have k1 : (0 : Int) ≤ 6 * x + y := by omega
    have k2 : 6 * x + y < 36 := by omega
    have k3 : (0 : Int) ≤ 6 * y + x := by omega
    have k4 : 6 * y + x < 36 := by omega
    clear hq h
    go_enter Try.func32, Try.ntmps32
    go_wp2_with fail
    refine hlk.out.mono ?_
    rintro e w1 ⟨rfl, rfl⟩
    go_wp2_with fail
    go_ret
    exact ⟨rfl, hend, hS⟩
end Go.Proofs.Ytjopbglimjhefaa
