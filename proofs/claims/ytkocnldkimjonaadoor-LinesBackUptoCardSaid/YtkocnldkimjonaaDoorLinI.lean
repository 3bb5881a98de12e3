/- A feeder that is none, and Twin: another one that stands the same. -/
import Derived.Test.YtkocnldkimjonaaDoorLinG
namespace Go.Proofs.YtkocnldkimjonaaDoor
open Go.RowKit

set_option maxRecDepth 100000 in
set_option maxHeartbeats 1000000 in
theorem feed_nil (w : World) (s : ByteArray) : Calls Tryd.prog 10 #[.pointer none, .string s] w fun e w' => e = .returned (.slice none 0 0) ∧ w = w' := by
  go_enter Tryd.func10, Tryd.ntmps10
  go_wp2_with fail
  go_step3
  go_wp2
  first | rw [Exit.noGoto_ret] | skip
  go_ret
  exact ⟨rfl, rfl⟩
theorem waits_nil (w : World) : Calls Tryd.prog 14 #[.pointer none] w fun e w' => e = .returned (.int .i64 0) ∧ w = w' := by
  go_enter Tryd.func14, Tryd.ntmps14
  go_wp2_with fail
  go_ret
  exact ⟨rfl, rfl⟩
theorem size_nil (w : World) : Calls Tryd.prog 15 #[.pointer none] w fun e w' => e = .returned (.int .i64 0) ∧ w = w' := by
  go_enter Tryd.func15, Tryd.ntmps15
  go_wp2_with fail
  go_ret
  exact ⟨rfl, rfl⟩
theorem deaf_nil (w : World) : Calls Tryd.prog 16 #[.pointer none] w fun e w' => e = .returned (.bool false) ∧ w = w' := by
  go_enter Tryd.func16, Tryd.ntmps16
  go_wp2_with fail
  go_ret
  exact ⟨rfl, rfl⟩
theorem twin_nil (w : World) : Calls Tryd.prog 19 #[.pointer none] w fun e w' => e = .returned (.pointer none) ∧ w = w' := by
  go_enter Tryd.func19, Tryd.ntmps19
  go_wp2_with fail
  go_ret
  exact ⟨rfl, rfl⟩
theorem OwnBytes.form {B : Nat} {w : World} {a : Option Addr} {c : Nat} {l : List UInt8} (h : OwnBytes w B 5 (.slice a l.length c) l) : (l = [] ∧ a = none ∧ c = 0) ∨ ∃ g, a = some ⟨g, 0, none⟩ := by
  rcases h.2 with ⟨hv, hn⟩ | ⟨g, cap, cur, hv, _⟩
  · have := Value.slice.inj hv
    exact .inl ⟨List.eq_nil_of_length_eq_zero hn, this.1, this.2.2⟩
  · exact .inr ⟨g, (Value.slice.inj hv).1⟩
theorem OwnBytes.empty (w : World) : OwnBytes (w.alloc (.cells #[] 5)) w.heap.size 5 (.slice (some ⟨w.heap.size, 0, none⟩) 0 0) [] :=
  ⟨rfl, .inr ⟨w.heap.size, 0, _, rfl, Nat.le_refl _, heap_alloc_new w _, Nat.le_refl _, by unfold maxLen; omega, rfl, rfl⟩⟩
theorem owns_empty (w : World) (o : Obj) : ((w.alloc o).alloc (.cells #[] 5)).ownsRow (w.heap.size + 1) 5 1 (.slice (some ⟨w.heap.size + 1, 0, none⟩) 0 0) 0 [] := by
  have := OwnBytes.empty (w.alloc o)
  unfold OwnBytes at this
  simpa [Lib.byteCells] using this
theorem bytes_own {w : World} {B g n c : Nat} {l : List UInt8} (h : OwnBytes w B 5 (.slice (some ⟨g, 0, none⟩) n c) l) (j : Nat) (u : Value) (hu : (Lib.byteCells l)[j]? = some u) : w.cell? ((⟨g, 0, none⟩ : Addr).add j) = some u :=
  World.ownsRow.cells h (g := g) rfl j u hu
set_option maxHeartbeats 1000000 in
theorem twin_any (B : Nat) (w : World) (b c : Nat) (a : Option Addr) (st : FS) (h : FeedAt B w b a c st) (hl : st.text.length ≤ 9000) :
    Calls Tryd.prog 19 #[.pointer (some ⟨b, 0, none⟩)] w fun e w' => ∃ b' a' c', e = .returned (.pointer (some ⟨b', 0, none⟩)) ∧ w.heap.size ≤ b' ∧ FeedAt w.heap.size w' b' a' c' st ∧ Below w.heap.size w w' := by
  obtain ⟨c0, c1, c2, c3⟩ := h.cell
  have hbr := h.lt
  obtain ⟨i, hi0, hz, hz1, hz2⟩ := info_parts byte_info
  rcases h.own.form with ⟨ht, rfl, rfl⟩ | ⟨g, rfl⟩
  · rw [show st.text.length = 0 by rw [ht]; rfl] at c0
    go_enter Tryd.func19, Tryd.ntmps19
    go_wp2_with fail
    go_ret
    refine ⟨w.heap.size, some ⟨w.heap.size + 1, 0, none⟩, 0, rfl, Nat.le_refl _, ⟨Nat.le_refl _, ?_, ?_, fun d hd => by cases hd; simp⟩, ?_⟩
    · rw [ht]
      exact (Below.heap_alloc _ _ _ (by simp)).trans (heap_alloc_new _ _)
    · rw [ht]
      refine ⟨rfl, .inr ⟨w.heap.size + 1, 0, #[], rfl, by omega, ?_, Nat.le_refl _, by unfold maxLen; omega, rfl, rfl⟩⟩
      have := heap_alloc_new (w.alloc (.cells #[.slice (some ⟨w.heap.size + 1, 0, none⟩) 0 0, .int .i64 st.part, .int .i64 st.left, .bool st.deaf] 50)) (.cells #[] 5)
      simpa using this
    · exact ((Below.refl _ w).alloc (Nat.le_refl _) _).alloc (by simp) _
  · have hnw : ∀ (o1 o2 : Obj) (j : Nat) (u : Value), (Lib.byteCells st.text)[j]? = some u → ((w.alloc o1).alloc o2).cell? ((⟨g, 0, none⟩ : Addr).add j) = some u := fun o1 o2 j u hu => bytes_own ((h.own.alloc o1).alloc o2) j u hu
    have h1c : ∀ u ∈ Lib.byteCells st.text, u.oneCell' = true := fun u hu => by
      simp only [Lib.byteCells, List.mem_map] at hu
      obtain ⟨y, _, rfl⟩ := hu
      rfl
    have hlen : (Lib.byteCells st.text).length = st.text.length * 1 := by simp [Lib.byteCells]
    replace hnw := Lib.hid hnw
    replace h1c := Lib.hid h1c
    replace hlen := Lib.hid hlen
    go_enter Tryd.func19, Tryd.ntmps19
    go_wp2_with (at_builtin; refine wpList_append_own _ rfl (.tmp 9) (.tmp 13) 48 rfl (w.heap.size + 1) 5 i (.int .u8 0) 1 1 Tryd.underlying48 hi0 hz hz1 hz2 rfl (by decide) _ 0 [] rfl (owns_empty w _) ⟨g, 0, none⟩ st.text.length c (Lib.byteCells st.text) rfl hlen.out (hnw.out _ _) h1c.out (by unfold maxLen; omega) (by omega) (by simp) ?_)
    intro v1 w1 ho1 hg1 hnn
    obtain ⟨g1, cap1, rfl⟩ : ∃ g1 cap1, v1 = .slice (some ⟨g1, 0, none⟩) st.text.length cap1 := by
      rcases ho1.2 with ⟨hv, _⟩ | ⟨g1, cap1, cur, hv, _⟩
      · exact absurd hv hnn
      · exact ⟨g1, cap1, hv⟩
    clear hnn
    have hown : OwnBytes w1 (w.heap.size + 1) 5 (.slice (some ⟨g1, 0, none⟩) st.text.length cap1) st.text := by
      unfold OwnBytes
      simpa using ho1
    have hg1b := (hown.lt g1 rfl).1
    have hk : w1.heap[w.heap.size]? = some (.cells #[.slice (some ⟨g, 0, none⟩) st.text.length c, .int .i64 st.part, .int .i64 st.left, .bool st.deaf] 50 (0, 0)) :=
      (hg1.block w.heap.size (by simp; omega) (by simp [Value.ownBlock])).trans ((Below.heap_alloc _ _ _ (by simp)).trans (heap_alloc_new _ _))
    have r0 : w1.cell? ⟨w.heap.size, 0, none⟩ = some (.slice (some ⟨g, 0, none⟩) st.text.length c) := by simp only [World.cell?, hk]; rfl
    have rf0 : w1.frozen? ⟨w.heap.size, 0, none⟩ = false := by simp only [World.frozen?, hk]; simp
    have hbel : Below w.heap.size w w1 := (((below_alloc w _).alloc (by simp) _)).grown hg1 (by simp; omega) (fun k hk => by simp [Value.ownBlock] at hk; omega)
    replace hown := Lib.hid hown
    replace hk := Lib.hid hk
    replace hbel := Lib.hid hbel
    clear ho1 hg1
    go_wp2_with fail
    go_ret
    refine ⟨w.heap.size, some ⟨g1, 0, none⟩, cap1, rfl, Nat.le_refl _, ⟨Nat.le_refl _, ?_, ?_, fun d hd => by cases hd; show g1 ≠ w.heap.size; omega⟩, ?_⟩
    · simp [World.setCell, Array.getElem?_modify, hk.out]
    · refine OwnBytes.of_block (w := w1) ?_ (fun k hk => ?_)
      · rcases hown.out with ⟨q1, q2 | ⟨g2, cap, cur, hv, hb, r⟩⟩
        · exact ⟨q1, .inl q2⟩
        · exact ⟨q1, .inr ⟨g2, cap, cur, hv, by omega, r⟩⟩
      · have : k = g1 := by simpa [Value.ownBlock] using hk.symm
        subst this
        exact Below.heap_setCell _ _ _ _ (by show k ≠ w.heap.size; omega)
    · exact hbel.out.setCell (Nat.le_refl _) _
end Go.Proofs.YtkocnldkimjonaaDoor
