/- What every right program answers: alive, walked. -/
import Derived.Test.YtmlmkcpdgcojlaaDoorMaG
namespace Go.Proofs.YtmlmkcpdgcojlaaDoor
open Go.RowKit

def noHas : Nat → Nat → Bool := fun _ _ => false
def key (kind kids : Int) (field text : List UInt8) (n : Nat) : KeyD := ⟨kind, kids, mkB field, mkB text, n, none, 0, 0, noHas⟩
def seen : List UInt8 := [92, 83, 101, 101, 110]
def aliveKeys : List KeyD := [key 1 2 [] [] 0, key 2 0 [] [] 0, key 7 0 seen [] 0, key 13 0 [115, 117, 98, 106, 101, 99, 116] [104, 73] 0]
def aliveX (b : Nat) : LetterD := ⟨7, some ⟨b, 0, none⟩, 1, 1, 9, ⟨#[]⟩, 30, fun f => Lib.containsS [mkB seen] f⟩
def aliveP : PlaceD := ⟨2, 5, 8⟩
theorem alive_whole : wholeL aliveKeys = true := by kernel_rfl
theorem alive_m1 (b : Nat) : matchL aliveKeys (aliveX b) aliveP [83, 117, 98, 106, 101, 99, 116, 58, 32, 72, 105, 13, 10, 13, 10, 121, 111, 117] = true := by kernel_rfl
theorem alive_m2 (b : Nat) : matchL [key 7 0 seen [] 0] (aliveX b) aliveP [] = false := by kernel_rfl
theorem alive_wants : wantsL aliveKeys = true := by kernel_rfl
/-- the four blocks that alive looks at -/
structure AliveMem (W : World) (fb xb pb kb : Nat) (m : Int) : Prop where
  bf : W.heap[fb]? = some (.cells #[.string ⟨#[92, 83, 101, 101, 110]⟩] 9 (0, 0))
  bx : W.heap[xb]? = some (.cells #[.int .u64 7, .slice (some ⟨fb, 0, none⟩) 1 1, .int .u64 9, .string ⟨#[]⟩, .int .u64 30] 26 (0, 0))
  bp : W.heap[pb]? = some (.cells #[.int .u64 2, .int .u64 5, .int .u64 8] 28 (0, 0))
  bk : W.heap[kb]? = some (.cells #[.int .i64 1, .int .i64 2, .string ⟨#[]⟩, .string ⟨#[]⟩, .int .u64 0, .slice none 0 0, .int .i64 2, .int .i64 0, .string ⟨#[]⟩, .string ⟨#[]⟩, .int .u64 0, .slice none 0 0, .int .i64 7, .int .i64 0, .string ⟨#[92, 83, 101, 101, 110]⟩, .string ⟨#[]⟩, .int .u64 0, .slice none 0 0, .int .i64 13, .int .i64 0, .string ⟨#[115, 117, 98, 106, 101, 99, 116]⟩, .string ⟨#[104, 73]⟩, .int .u64 0, .slice none 0 0] 36 (0, 0))
  mx : W.cell? ⟨0, 0, none⟩ = some (.int .i64 m)
theorem AliveMem.later {W W' : World} {fb xb pb kb : Nat} {m : Int} (h : AliveMem W fb xb pb kb m) (hb : Below W.heap.size W W') : AliveMem W' fb xb pb kb m :=
  ⟨heap_below h.bf hb, heap_below h.bx hb, heap_below h.bp hb, heap_below h.bk hb, (hb.cell (p := ⟨0, 0, none⟩) (World.block_lt_of_cell? W ⟨0, 0, none⟩ h.mx)).trans h.mx⟩
theorem flag_ok {W0 : World} {B b n c : Nat} {zs : List ByteArray} (hb : b < B) (hn : n = zs.length) (h63 : n ≤ 9223372036854775807) (hc : ∀ j, j < zs.length → W0.cell? ⟨b, 0 + j, none⟩ = some (.string (zs.getD j ByteArray.empty))) :
    ∀ w', Below B W0 w' → ∀ f : ByteArray, Calls Tryd.prog 21 #[.slice (some ⟨b, 0, none⟩) n c, .string f] w' fun e w'' => e = .returned (.bool (Lib.containsS zs f)) ∧ w'' = w' := fun w' h f => by
  have h2 := Tryd.slices_Contains_string b 0 n c zs f w' (by omega) h63 (fun j hj => (h.cell (p := ⟨b, 0 + j, none⟩) hb).trans (hc j hj))
  rw [hn, List.take_length] at h2
  rw [hn]; exact h2
theorem alive_keys {W : World} {fb xb pb kb : Nat} {m : Int} (h : AliveMem W fb xb pb kb m) : KeysIn W W.heap.size (.slice (some ⟨kb, 0, none⟩) 4 4) aliveKeys := by
  have hk := cell_at h.bk
  refine ⟨_, 4, rfl, .inr ⟨kb, 0, rfl, (Array.getElem?_eq_some_iff.1 h.bk).1, by decide, fun j hj => ?_⟩⟩
  match j, hj with
  | 0, _ => exact ⟨hk 0, hk 1, hk 2, hk 3, hk 4, hk 5⟩
  | 1, _ => exact ⟨hk 6, hk 7, hk 8, hk 9, hk 10, hk 11⟩
  | 2, _ => exact ⟨hk 12, hk 13, hk 14, hk 15, hk 16, hk 17⟩
  | 3, _ => exact ⟨hk 18, hk 19, hk 20, hk 21, hk 22, hk 23⟩
theorem alive_keys2 {W : World} {fb xb pb kb : Nat} {m : Int} (h : AliveMem W fb xb pb kb m) : KeysIn W W.heap.size (.slice (some ⟨kb, 12, none⟩) 1 2) [key 7 0 seen [] 0] := by
  have hk := cell_at h.bk
  refine ⟨_, 2, rfl, .inr ⟨kb, 12, rfl, (Array.getElem?_eq_some_iff.1 h.bk).1, by decide, fun j hj => ?_⟩⟩
  match j, hj with
  | 0, _ => exact ⟨hk 12, hk 13, hk 14, hk 15, hk 16, hk 17⟩
theorem alive_asked {W : World} {fb xb pb kb : Nat} {m : Int} (h : AliveMem W fb xb pb kb m) (ks : List KeyD) (v : Value) (hk : KeysIn W W.heap.size v ks) (hks : ∀ k ∈ ks, k ∈ aliveKeys) : Asked W W.heap.size ks v (aliveX fb) m := by
  have hall : ∀ k ∈ aliveKeys, k.kind ≠ 5 ∧ k.kind ≠ 6 ∧ k.field.size ≤ 4194304 ∧ k.text.size ≤ 4194304 ∧ k.kids ≤ 9223372036854775807 := by
    intro k hk
    simp only [aliveKeys, List.mem_cons, List.not_mem_nil, or_false] at hk
    rcases hk with rfl | rfl | rfl | rfl <;> exact ⟨by decide, by decide, by decide, by decide, by decide⟩
  refine ⟨hk, fun k hk h56 => ?_, flag_ok (n := 1) (zs := [mkB seen]) (Array.getElem?_eq_some_iff.1 h.bf).1 rfl (by decide) (fun j hj => ?_), h.mx, World.block_lt_of_cell? W ⟨0, 0, none⟩ h.mx, fun k hk _ => ?_, fun k hk => ?_⟩
  · have := hall k (hks k hk)
    rcases h56 with h | h
    · exact absurd h this.1
    · exact absurd h this.2.1
  · obtain rfl : j = 0 := by simpa using hj
    exact cell_at h.bf 0
  · have := hall k (hks k hk)
    exact ⟨this.2.2.1, this.2.2.2.1⟩
  · exact (hall k (hks k hk)).2.2.2.2
def AW (W0 : World) (fb xb pb kb : Nat) (m : Int) (W : World) : Prop := Below W0.heap.size W0 W ∧ AliveMem W fb xb pb kb m
theorem AW.on {W0 W W' : World} {fb xb pb kb : Nat} {m : Int} (h : AW W0 fb xb pb kb m W) (hb : Below W.heap.size W W') : AW W0 fb xb pb kb m W' := ⟨h.1.trans (hb.mono h.1.size), h.2.later hb⟩
set_option maxRecDepth 100000 in
set_option maxHeartbeats 4000000 in
theorem alive_any (m : Int) (w : World) (hm : w.cell? ⟨0, 0, none⟩ = some (.int .i64 m)) (h0 : 1 ≤ w.heap.size) :
    Calls Tryd.prog 6 #[] w fun e w' => e = .returned (.bool true) ∧ Hid (Below w.heap.size w w') := by
  have hmx : Tryd.prog.follows .mixedOrders = true := by kernel_rfl
  go_enter Tryd.func6, Tryd.ntmps6
  go_wp2_with fail
  generalize hW4 : (((((w.alloc (.cells #[.string ⟨#[92, 83, 101, 101, 110]⟩] 9)).alloc (.cells #[.int .u64 7, .slice (some ⟨w.heap.size, 0, none⟩) 1 1, .int .u64 9, .string ⟨#[]⟩, .int .u64 30] 26)).alloc (.cells #[.int .u64 2, .int .u64 5, .int .u64 8] 28)).alloc (.cells #[.int .i64 7, .int .i64 0, .string ⟨#[92, 83, 101, 101, 110]⟩, .string ⟨#[]⟩, .int .u64 0, .slice none 0 0] 36)).alloc (.cells #[.int .i64 1, .int .i64 2, .string ⟨#[]⟩, .string ⟨#[]⟩, .int .u64 0, .slice none 0 0, .int .i64 2, .int .i64 0, .string ⟨#[]⟩, .string ⟨#[]⟩, .int .u64 0, .slice none 0 0, .int .i64 7, .int .i64 0, .string ⟨#[92, 83, 101, 101, 110]⟩, .string ⟨#[]⟩, .int .u64 0, .slice none 0 0, .int .i64 13, .int .i64 0, .string ⟨#[115, 117, 98, 106, 101, 99, 116]⟩, .string ⟨#[104, 73]⟩, .int .u64 0, .slice none 0 0] 36)) = W4
  have hB : Below w.heap.size w W4 := by
    rw [← hW4]
    exact (((((Below.refl _ w).alloc (Nat.le_refl _) _).alloc (by simp) _).alloc (by simp; omega) _).alloc (by simp; omega) _).alloc (by simp; omega) _
  have hmem : AliveMem W4 w.heap.size (w.heap.size + 1) (w.heap.size + 1 + 1) (w.heap.size + 1 + 1 + 1 + 1) m := by
    refine ⟨?_, ?_, ?_, ?_, (hB.cell (p := ⟨0, 0, none⟩) (by show 0 < _; omega)).trans hm⟩
    · rw [← hW4]; exact cells_kept (cells_kept (cells_kept (cells_kept (cells_new w _ _) _) _) _) _
    · rw [← hW4]
      have h := cells_new (w.alloc (.cells #[.string ⟨#[92, 83, 101, 101, 110]⟩] 9)) #[.int .u64 7, .slice (some ⟨w.heap.size, 0, none⟩) 1 1, .int .u64 9, .string ⟨#[]⟩, .int .u64 30] 26
      rw [World.size_alloc] at h
      exact cells_kept (cells_kept (cells_kept h _) _) _
    · rw [← hW4]
      have h := cells_new ((w.alloc (.cells #[.string ⟨#[92, 83, 101, 101, 110]⟩] 9)).alloc (.cells #[.int .u64 7, .slice (some ⟨w.heap.size, 0, none⟩) 1 1, .int .u64 9, .string ⟨#[]⟩, .int .u64 30] 26)) #[.int .u64 2, .int .u64 5, .int .u64 8] 28
      rw [World.size_alloc, World.size_alloc] at h
      exact cells_kept (cells_kept h _) _
    · rw [← hW4]
      have h := cells_new ((((w.alloc (.cells #[.string ⟨#[92, 83, 101, 101, 110]⟩] 9)).alloc (.cells #[.int .u64 7, .slice (some ⟨w.heap.size, 0, none⟩) 1 1, .int .u64 9, .string ⟨#[]⟩, .int .u64 30] 26)).alloc (.cells #[.int .u64 2, .int .u64 5, .int .u64 8] 28)).alloc (.cells #[.int .i64 7, .int .i64 0, .string ⟨#[92, 83, 101, 101, 110]⟩, .string ⟨#[]⟩, .int .u64 0, .slice none 0 0] 36)) #[.int .i64 1, .int .i64 2, .string ⟨#[]⟩, .string ⟨#[]⟩, .int .u64 0, .slice none 0 0, .int .i64 2, .int .i64 0, .string ⟨#[]⟩, .string ⟨#[]⟩, .int .u64 0, .slice none 0 0, .int .i64 7, .int .i64 0, .string ⟨#[92, 83, 101, 101, 110]⟩, .string ⟨#[]⟩, .int .u64 0, .slice none 0 0, .int .i64 13, .int .i64 0, .string ⟨#[115, 117, 98, 106, 101, 99, 116]⟩, .string ⟨#[104, 73]⟩, .int .u64 0, .slice none 0 0] 36
      rw [World.size_alloc, World.size_alloc, World.size_alloc, World.size_alloc] at h
      exact h
  clear hW4
  generalize w.heap.size + 1 + 1 + 1 + 1 = kb at hmem ⊢
  generalize w.heap.size + 1 + 1 = pb at hmem ⊢
  generalize w.heap.size + 1 = xb at hmem ⊢
  generalize hfb : w.heap.size = fb at hmem ⊢
  have ha0 : AW W4 fb xb pb kb m W4.drew := ⟨Below.drew (Below.refl _ _), hmem.later (Below.drew (Below.refl _ _))⟩
  have hcW := Lib.hid (fun W (h : AW W4 fb xb pb kb m W) => (whole_any aliveKeys _ (alive_asked h.2 _ _ (alive_keys h.2) (fun _ h => h)).wf W (alive_keys h.2)).mono fun e W' h' => (⟨by rw [h'.1, alive_whole], h.on h'.2.out⟩ : e = Ending.returned (Value.bool true) ∧ AW W4 fb xb pb kb m W'))
  have hcN := Lib.hid (fun W (h : AW W4 fb xb pb kb m W) => (wants_any aliveKeys _ W (by decide) (alive_keys h.2)).mono fun e W' h' => (⟨by rw [h'.1, alive_wants], h.on h'.2.out⟩ : e = Ending.returned (Value.bool true) ∧ AW W4 fb xb pb kb m W'))
  have hc1 : ∀ W, AW W4 fb xb pb kb m W → Calls Tryd.prog 11 #[.slice (some ⟨kb, 0, none⟩) 4 4, .agg #[.int .u64 7, .slice (some ⟨fb, 0, none⟩) 1 1, .int .u64 9, .string ⟨#[]⟩, .int .u64 30], .agg #[.int .u64 2, .int .u64 5, .int .u64 8], .string ⟨#[83, 117, 98, 106, 101, 99, 116, 58, 32, 72, 105, 13, 10, 13, 10, 121, 111, 117]⟩] W fun e W' => e = .returned (.bool true) ∧ AW W4 fb xb pb kb m W' := (fun W (h : AW W4 fb xb pb kb m W) => (match_any aliveKeys _ (aliveX fb) aliveP (mkB [83, 117, 98, 106, 101, 99, 116, 58, 32, 72, 105, 13, 10, 13, 10, 121, 111, 117]) m W (by decide) (alive_asked h.2 _ _ (alive_keys h.2) (fun _ h => h))).mono fun e W' h' => (⟨by rw [h'.1, mkB_list, alive_m1], h.on h'.2.out⟩ : e = Ending.returned (Value.bool true) ∧ AW W4 fb xb pb kb m W'))
  have hc2 : ∀ W, AW W4 fb xb pb kb m W → Calls Tryd.prog 11 #[.slice (some ⟨kb, 12, none⟩) 1 2, .agg #[.int .u64 7, .slice (some ⟨fb, 0, none⟩) 1 1, .int .u64 9, .string ⟨#[]⟩, .int .u64 30], .agg #[.int .u64 2, .int .u64 5, .int .u64 8], .string ⟨#[]⟩] W fun e W' => e = .returned (.bool false) ∧ AW W4 fb xb pb kb m W' := (fun W (h : AW W4 fb xb pb kb m W) => (match_any [key 7 0 seen [] 0] _ (aliveX fb) aliveP (mkB []) m W (by decide) (alive_asked h.2 _ _ (alive_keys2 h.2) (fun k hk => by
    obtain rfl : k = key 7 0 seen [] 0 := by simpa using hk
    simp [aliveKeys]))).mono fun e W' h' => (⟨by rw [h'.1, mkB_list, alive_m2], h.on h'.2.out⟩ : e = Ending.returned (Value.bool false) ∧ AW W4 fb xb pb kb m W'))
  have x0 := cell_at ha0.2.bx 0
  have x1 := cell_at ha0.2.bx 1
  have x2 := cell_at ha0.2.bx 2
  have x3 := cell_at ha0.2.bx 3
  have x4 := cell_at ha0.2.bx 4
  have y0 := cell_at ha0.2.bp 0
  have y1 := cell_at ha0.2.bp 1
  have y2 := cell_at ha0.2.bp 2
  clear hmem hm
  replace hc1 := Lib.hid hc1
  replace hc2 := Lib.hid hc2
  go_region_with (first
    | (go_at_call 8; refine (hcW.out _ (by assumption)).mono ?_; rintro e w5 ⟨rfl, h5⟩; have x0 := cell_at h5.2.bx 0; have x1 := cell_at h5.2.bx 1; have x2 := cell_at h5.2.bx 2; have x3 := cell_at h5.2.bx 3; have x4 := cell_at h5.2.bx 4; have y0 := cell_at h5.2.bp 0; have y1 := cell_at h5.2.bp 1; have y2 := cell_at h5.2.bp 2)
    | (go_at_call_of 11 (Value.string ⟨#[83, 117, 98, 106, 101, 99, 116, 58, 32, 72, 105, 13, 10, 13, 10, 121, 111, 117]⟩); refine (hc1.out _ (by assumption)).mono ?_; rintro e w6 ⟨rfl, h6⟩; have x0 := cell_at h6.2.bx 0; have x1 := cell_at h6.2.bx 1; have x2 := cell_at h6.2.bx 2; have x3 := cell_at h6.2.bx 3; have x4 := cell_at h6.2.bx 4; have y0 := cell_at h6.2.bp 0; have y1 := cell_at h6.2.bp 1; have y2 := cell_at h6.2.bp 2)
    | (go_at_call 11; refine (hc2.out _ (by assumption)).mono ?_; rintro e w7 ⟨rfl, h7⟩)
    | (go_at_call 10; refine (hcN.out _ (by assumption)).mono ?_; rintro e w8 ⟨rfl, h8⟩))
  all_goals (
    go_wp2_with fail
    go_ret
    exact ⟨rfl, Lib.hid (hB.trans (h8.1.mono hB.size))⟩)
end Go.Proofs.YtmlmkcpdgcojlaaDoor
