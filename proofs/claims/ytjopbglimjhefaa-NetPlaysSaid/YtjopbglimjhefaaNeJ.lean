/- link, New, Tick, Now: walked. -/
import Derived.Test.YtjopbglimjhefaaNeI
import Derived.Laws.ResultCell
namespace Go.Proofs.Ytjopbglimjhefaa
open Go.RowKit Go.Maps Go.WideMaps

def lo (a b : Int) : Int := if a ≤ b then a else b
def hi (a b : Int) : Int := if a ≤ b then b else a
def LinkRet (a b : Int) (W : World) (e : Ending) (w' : World) : Prop := ∃ (x y : Int) (ok : Bool), e = .returned (.tuple #[.agg #[.int .i64 x, .int .i64 y], .bool ok]) ∧ Hid (x = lo a b ∧ y = hi a b ∧ (ok = true ↔ Lk x y)) ∧ Hid (Below W.heap.size W w')
theorem link_res {W : World} {x y : Int} {ok : Bool} {tmps : Array Value} (h4 : tmps.getD 4 undef = .pointer (some ⟨W.heap.size, 0, none⟩)) (h5 : tmps.getD 5 undef = .bool ok) :
    (results Try.f22 tmps).run Try.prog (W.alloc (.cells #[.int .i64 x, .int .i64 y] 57)) = .ok (.tuple #[.agg #[.int .i64 x, .int .i64 y], .bool ok]) (W.alloc (.cells #[.int .i64 x, .int .i64 y] 57)) := by
  have hl := run_loadVar_row (P := Try.prog) (W.alloc (.cells #[.int .i64 x, .int .i64 y] 57)) W.heap.size 57 57 #[.int .i64 x, .int .i64 y] (0, 0) _ (heap_alloc_new W _) Try.underlying57 rfl (by kernel_rfl)
  rw [results_cell_tmp rfl, h4, h5]
  simp only [asAddr, Sem.run_pure, Result.andThen, hl]
set_option maxRecDepth 100000 in
set_option maxHeartbeats 4000000 in
theorem link_any (a b : Int) (W : World) : Calls Try.prog 22 #[.int .i64 a, .int .i64 b] W (LinkRet a b W) := by
  go_enter Try.func22, Try.ntmps22
  go_wp2_with fail
  all_goals
    refine bodyPost_ret (link_res rfl rfl) rfl ?_
    refine ⟨_, _, _, rfl, Lib.hid ?_, Lib.hid ((Below.refl _ W).alloc (Nat.le_refl _) _)⟩
    unfold lo hi Lk
    refine ⟨?_, ?_, ?_⟩
    · split <;> omega
    · split <;> omega
    · simp; try omega
theorem free_of {w : World} {B : Nat} {C : Array Value} {t : TypeId} (h : w.heap[B]? = some (.cells C t (0, 0))) (j : Nat) : w.frozen? ⟨B, j, none⟩ = false := by simp [World.frozen?, h]
theorem new_end (W : World) : NetAt ((W.alloc (.map #[] 0)).alloc (.cells #[.slice none 0 0, .int .i64 0, .int .i64 0, .map (some W.heap.size)] 56)) (W.heap.size + 1) W.heap.size (.slice none 0 0) [] 0 0 0 (fun _ _ => false) := by
  have hs : (W.alloc (.map #[] 0)).heap.size = W.heap.size + 1 := by simp
  have hb := heap_alloc_new (W.alloc (.map #[] 0)) (.cells #[.slice none 0 0, .int .i64 0, .int .i64 0, .map (some W.heap.size)] 56)
  rw [hs] at hb
  have hfr : ∀ j, ((W.alloc (.map #[] 0)).alloc (.cells #[.slice none 0 0, .int .i64 0, .int .i64 0, .map (some W.heap.size)] 56)).frozen? ⟨W.heap.size + 1, j, none⟩ = false := fun j => free_of hb j
  have hm := (World.ownsMap_made (H := Unit) W Try.prog 57 RB).alloc (.cells #[.slice none 0 0, .int .i64 0, .int .i64 0, .map (some W.heap.size)] 56)
  exact ⟨⟨(cell_at hb 0).trans rfl, hfr 0, World.ownsRow_nil _ _ _ _, by simp [Value.ownBlock]⟩, (cell_at hb 1).trans rfl, (cell_at hb 2).trans rfl, (cell_at hb 3).trans rfl, hfr 1, hfr 2, ⟨_, hm, CutsD.none⟩, by omega, by simp [Value.ownBlock]⟩
set_option maxRecDepth 100000 in
set_option maxHeartbeats 4000000 in
theorem new_any (W : World) : Calls Try.prog 10 #[] W fun e w' => ∃ b m, e = .returned (.pointer (some ⟨b, 0, none⟩)) ∧ Hid (NetAt w' b m (.slice none 0 0) [] 0 0 0 (fun _ _ => false)) ∧ Hid (Below W.heap.size W w') ∧ W.heap.size ≤ b ∧ W.heap.size ≤ m := by
  have hend := Lib.hid (new_end W)
  have hmm := @run_makeMap Try.prog
  go_enter Try.func10, Try.ntmps10
  go_wp2_with fail
  go_ret
  exact ⟨_, _, rfl, hend, Lib.hid (((Below.refl _ W).alloc (Nat.le_refl _) _).alloc (by simp) _), by omega, Nat.le_refl _⟩
set_option maxRecDepth 100000 in
set_option maxHeartbeats 4000000 in
theorem tick_any (b m : Nat) (v : Value) (l : List Pk) (now last N : Nat) (C : Int → Int → Bool) (hnow : now < 1000000) (W : World) (h : NetAt W b m v l now last N C) : Calls Try.prog 15 #[.pointer (some ⟨b, 0, none⟩)] W fun e w' => e = .returned (.tuple #[]) ∧ Hid (NetAt w' b m v l (now + 1) last N C) ∧ Hid (NSame W b m v w') := by
  have hend := h.set 1 (now + 1) (.inl rfl)
  simp only [if_true, show ¬ (1 = 2) by decide, if_false] at hend
  replace hend := Lib.hid hend
  have c1 := h.now
  have f1 := h.f1
  clear h
  go_enter Try.func15, Try.ntmps15
  go_wp2_with fail
  go_end0
  exact ⟨rfl, Lib.hid hend.out.1, Lib.hid hend.out.2⟩
theorem now_any (b m : Nat) (v : Value) (l : List Pk) (now last N : Nat) (C : Int → Int → Bool) (W : World) (h : NetAt W b m v l now last N C) : Calls Try.prog 14 #[.pointer (some ⟨b, 0, none⟩)] W fun e w' => e = .returned (.int .i64 now) ∧ w' = W := by
  have c1 := h.now
  clear h
  go_enter Try.func14, Try.ntmps14
  go_wp2_with fail
  go_ret
  exact ⟨rfl, rfl⟩
end Go.Proofs.Ytjopbglimjhefaa
