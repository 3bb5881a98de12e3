/- A new feeder, and what every right program answers: alive. -/
import Derived.Test.YtkocnldkimjonaaDoorLinE
namespace Go.Proofs.YtkocnldkimjonaaDoor
open Go.RowKit

def fs0 : FS := ⟨[], 0, 0, false⟩
set_option maxHeartbeats 400000 in
theorem new_any (B : Nat) (w : World) (hB : B ≤ w.heap.size) :
    Calls Tryd.prog 9 #[] w fun e w' => e = .returned (.pointer (some ⟨w.heap.size, 0, none⟩)) ∧ FeedAt B w' w.heap.size none 0 fs0 ∧ Below w.heap.size w w' ∧ w'.heap.size = w.heap.size + 1 := by
  go_enter Tryd.func9, Tryd.ntmps9
  go_wp2_with fail
  go_ret
  exact ⟨rfl, ⟨hB, heap_alloc_new _ _, OwnBytes.nil _ _ _, fun _ hd => by cases hd⟩, below_alloc _ _, by simp⟩
theorem heardCells_at : ∀ (l : List (Nat × List UInt8)) (j : Nat) (x : Nat × List UInt8), l[j]? = some x → (heardCells l)[j * 2]? = some (.int .i64 (x.1 : Int)) ∧ (heardCells l)[j * 2 + 1]? = some (.string ⟨x.2.toArray⟩)
  | [], j, x, h => by simp at h
  | y :: r, 0, x, h => by simp at h; subst h; exact ⟨rfl, rfl⟩
  | y :: r, j + 1, x, h => by
    have := heardCells_at r j x (by simpa using h)
    rw [show (j + 1) * 2 = j * 2 + 2 by omega]
    exact this
/-- a thing heard, in its place -/
theorem OwnHeards.form {w : World} {B : Nat} {v : Value} {l : List (Nat × List UInt8)} (h : OwnHeards w B v l) : (l = [] ∧ v = .slice none 0 0) ∨ ∃ g c, v = .slice (some ⟨g, 0, none⟩) l.length c := by
  rcases h.2 with ⟨rfl, hn⟩ | ⟨g, cap, cur, rfl, _⟩
  · exact .inl ⟨List.eq_nil_of_length_eq_zero hn, rfl⟩
  · exact .inr ⟨g, cap, rfl⟩
theorem OwnHeards.cell {w : World} {B : Nat} {g c : Nat} {l : List (Nat × List UInt8)} (h : OwnHeards w B (.slice (some ⟨g, 0, none⟩) l.length c) l) (j : Nat) (x : Nat × List UInt8) (hx : l[j]? = some x) : w.cell? ⟨g, j * 2, none⟩ = some (.int .i64 (x.1 : Int)) ∧ w.cell? ⟨g, j * 2 + 1, none⟩ = some (.string ⟨x.2.toArray⟩) :=
  ⟨by have := World.ownsRow.cells h (g := g) rfl _ _ (heardCells_at l j x hx).1; rwa [Addr.add_lit, Nat.zero_add] at this, by have := World.ownsRow.cells h (g := g) rfl _ _ (heardCells_at l j x hx).2; rwa [Addr.add_lit, Nat.zero_add] at this⟩
theorem alive_one : feedGo fs0 [97, 32, 88, 32, 123, 51, 125, 13, 10] = (⟨[97, 32, 88, 32, 123, 51, 125, 13, 10], 9, 3, false⟩, [(2, [])]) := by kernel_rfl
theorem alive_two : feedGo ⟨[97, 32, 88, 32, 123, 51, 125, 13, 10], 9, 3, false⟩ [13, 10, 98, 33, 13, 10] = (⟨[], 0, 0, false⟩, [(1, [97, 32, 88, 32, 123, 51, 125, 13, 10, 13, 10, 98, 33])]) := by kernel_rfl
theorem Kept.below {b : Nat} {a : Option Addr} {B : Nat} {w0 w w' : World} (h : Below B w0 w) (hk : Kept b a w w') (hB : B ≤ w.heap.size) (hb : B ≤ b) (ha : ∀ d, a = some d → B ≤ d.block) : Below B w0 w' :=
  h.trans ⟨hk.os, hk.tape, hk.output, hk.size, fun k hk' => hk.block k (by omega) (by omega) (fun d hd => by have := ha d hd; omega)⟩
set_option maxRecDepth 100000 in
set_option maxHeartbeats 1000000 in
theorem alive_any (w : World) (ht : Tab w) (he : Errs w) :
    Calls Tryd.prog 8 #[] w fun e w' => e = .returned (.bool true) ∧ Below w.heap.size w w' := by
  go_enter Tryd.func8, Tryd.ntmps8
  go_wp2_with fail
  refine (new_any w.heap.size w (Nat.le_refl _)).mono ?_
  rintro e w1 ⟨rfl, f1, b1, z1⟩
  go_wp2_with fail
  refine (feed_any w w1 ht he b1 w.heap.size none 0 fs0 f1 Good.new ⟨#[97, 32, 88, 32, 123, 51, 125, 13, 10]⟩ (by decide)).mono ?_
  rintro e w2 ⟨v2, rfl, r2⟩
  rw [show (ByteArray.mk #[97, 32, 88, 32, 123, 51, 125, 13, 10]).data.toList = [97, 32, 88, 32, 123, 51, 125, 13, 10] from rfl, alive_one] at r2
  have r2 : Run w.heap.size w1 w.heap.size none v2 w2 ⟨[97, 32, 88, 32, 123, 51, 125, 13, 10], 9, 3, false⟩ [(2, [])] := r2
  obtain ⟨a2, c2, f2, hn2, hap2⟩ := r2.at_
  have b2 := r2.kept.below b1 (by omega) (Nat.le_refl _) (fun _ hd => by cases hd)
  rcases r2.out.form with ⟨h, _⟩ | ⟨g2, cc2, rfl⟩
  · cases h
  obtain ⟨k0, k1⟩ := r2.out.cell 0 _ rfl
  have hg2 := (World.ownsRow.lt r2.out g2 rfl)
  go_wp2_with fail
  refine (waits_any _ _ _ _ _ _ f2).mono ?_
  rintro e w' ⟨rfl, rfl⟩
  go_wp2_with fail
  have hz2 := r2.kept.size
  refine (feed_any w w2 ht he b2 w.heap.size a2 c2 _ f2 ⟨by decide, by decide, by decide, by decide, by decide⟩ ⟨#[13, 10, 98, 33, 13, 10]⟩ (by decide)).mono ?_
  rintro e w3 ⟨v3, rfl, r3⟩
  rw [show (ByteArray.mk #[13, 10, 98, 33, 13, 10]).data.toList = [13, 10, 98, 33, 13, 10] from rfl, alive_two] at r3
  have r3 : Run w.heap.size w2 w.heap.size a2 v3 w3 ⟨[], 0, 0, false⟩ [(1, [97, 32, 88, 32, 123, 51, 125, 13, 10, 13, 10, 98, 33])] := r3
  have b3 := r3.kept.below b2 (by omega) (Nat.le_refl _) (fun d hd => (f2.text_lt d hd).1)
  rcases r3.out.form with ⟨h, _⟩ | ⟨g3, cc3, rfl⟩
  · cases h
  obtain ⟨m0, m1⟩ := r3.out.cell 0 _ rfl
  have hk2 := r3.kept.block g2 hg2.2 (by omega) (fun d hd => hap2 d g2 hd rfl)
  have k0' := (World.cell?_of_block (w := w2) (w' := w3) (a := ⟨g2, 0 * 2, none⟩) hk2).trans k0
  simp at k0' m0 m1
  go_wp2_with fail
  go_ret
  exact ⟨rfl, b3⟩
end Go.Proofs.YtkocnldkimjonaaDoor
