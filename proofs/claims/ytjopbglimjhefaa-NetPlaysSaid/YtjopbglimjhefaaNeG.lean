/- Pop and Len of flight, container/heap's Push, Pop, Remove, Fix: walked. -/
import Derived.Test.YtjopbglimjhefaaNeF
namespace Go.Proofs.Ytjopbglimjhefaa
open Go.RowKit

theorem OwnP.len {w : World} {v : Value} {l : List Pk} (h : OwnP w v l) : ∃ a c, v = .slice a l.length c := by
  rcases h.2 with ⟨rfl, hn⟩ | ⟨g, cap, cur, rfl, _⟩
  · exact ⟨none, 0, by rw [hn]⟩
  · exact ⟨_, _, rfl⟩
theorem OwnP.row {W : World} {v : Value} {l : List Pk} (h : OwnP W v l) (hpos : 0 < l.length) : ∃ g cap rest, v = .slice (some ⟨g, 0, none⟩) l.length cap ∧ l.length ≤ cap ∧ PRow W g l rest ∧ ∀ W' (l' : List Pk) n, n ≤ l.length → l'.length = l.length → PRow W' g l' rest → OwnP W' (.slice (some ⟨g, 0, none⟩) n cap) (l'.take n) := by
  rcases h.2 with ⟨rfl, hn⟩ | ⟨g, cap, cur, rfl, hb, hg, hc, hm, hs, ht⟩
  · omega
  · refine ⟨g, cap, cur.toList.drop (l.length * 5), rfl, hc, ?_, ?_⟩
    · unfold PRow
      rw [← ht, List.take_append_drop]
      exact hg
    · intro W' l' n hn hl hr
      unfold PRow at hr
      unfold OwnP
      have e : rowCells l' = rowCells (l'.take n) ++ rowCells (l'.drop n) := by rw [← rowCells_app, List.take_append_drop]
      refine ⟨by rw [rowCells_len], .inr ⟨g, cap, _, by rw [List.length_take, Nat.min_eq_left (by omega)], hb, hr, by rw [List.length_take]; omega, hm, ?_, ?_⟩⟩
      · have h1 := rowCells_len l'
        have h2 : cur.toList.length = cur.size := rfl
        simp only [List.size_toArray, List.length_append, List.length_drop, h1, h2]
        omega
      · rw [List.toList_toArray, e, List.append_assoc, List.take_left' (rowCells_len _)]
theorem Fl.row {W : World} {b : Nat} {v : Value} {l : List Pk} (h : Fl W b v l) (hpos : 0 < l.length) : ∃ g cap rest, v = .slice (some ⟨g, 0, none⟩) l.length cap ∧ b ≠ g ∧ l.length ≤ cap ∧ PRow W g l rest ∧ FSlice W b g l.length cap ∧ ∀ W' (l' : List Pk), l'.length = l.length → PRow W' g l' rest → Kept1 W g W' → Fl W' b v l' ∧ FSame W b v W' := by
  obtain ⟨hc, hf, ho, hb⟩ := h
  have hlt : b < W.heap.size := World.block_lt_of_cell? W ⟨b, 0, none⟩ hc
  obtain ⟨g, cap, rest, rfl, hcap, hr, hback⟩ := ho.row hpos
  have hbg : b ≠ g := fun e => hb (by simp [Value.ownBlock, e])
  refine ⟨g, cap, rest, rfl, hbg, hcap, hr, hc, fun W' l' hl hr' hk => ⟨⟨hk.cell hbg hc, (World.frozen?_of_block (hk.2.2.2.2 b hlt hbg)).trans hf, ?_, hb⟩, FSame.of_kept1 hk rfl hbg hlt⟩⟩
  have := hback W' l' l.length (Nat.le_refl _) hl hr'
  rwa [List.take_of_length_le (by omega)] at this
theorem FSame.lt {W W' : World} {b : Nat} {v : Value} (h : FSame W b v W') {k : Nat} (hk : k < W.heap.size) : k < W'.heap.size := Nat.lt_of_lt_of_le hk h.size
theorem len_any (v : Value) (l : List Pk) (W : World) (h : ∃ a c, v = .slice a l.length c) : Calls Try.prog 79 #[v] W fun e w' => e = .returned (.int .i64 l.length) ∧ w' = W := by
  obtain ⟨a, c, rfl⟩ := h
  go_enter Try.func79, Try.ntmps79
  go_wp2_with fail
  go_ret
  exact ⟨rfl, rfl⟩
theorem method_push (a : Addr) (w : World) : (method 223 64 (.pointer (some a)) "Push").run Try.prog w = .ok (83, .pointer (some a)) w := by kernel_rfl
theorem method_pop (a : Addr) (w : World) : (method 223 64 (.pointer (some a)) "Pop").run Try.prog w = .ok (82, .pointer (some a)) w := by kernel_rfl
def hp (b : Nat) : Value := .iface 64 (.pointer (some ⟨b, 0, none⟩))
set_option maxRecDepth 100000 in
set_option maxHeartbeats 4000000 in
theorem heapPush_any (b : Nat) (v : Value) (l : List Pk) (p : Pk) (hlen : l.length < 1000000) (W : World) (hfl : Fl W b v l) (hh : Heap l l.length) :
    Calls Try.prog 33 #[.iface 64 (.pointer (some ⟨b, 0, none⟩)), .iface 30 (pkVal p)] W fun e w' => e = .returned (.tuple #[]) ∧ ∃ v' l', Hid (Fl w' b v' l') ∧ Hid (l'.Perm (p :: l) ∧ Heap l' l'.length) ∧ Hid (FSame W b v w' ∧ Later W v v') := by
  have hp1 := Lib.hid (push_any b v l p (by omega) W hfl)
  have hm := method_push
  have hx := Lib.hid (Exc.push hh p)
  clear hfl hh
  go_enter Try.func33, Try.ntmps33
  go_wp2_with fail
  refine hp1.out.mono ?_
  rintro e w1 ⟨rfl, v1, h1, h2⟩
  obtain ⟨g, cap, rest, rfl, hbg, -, hrow, hsl, hback⟩ := h1.out.row (by simp)
  have hl1 : (l ++ [p]).length = l.length + 1 := by simp
  have hml := method_at method_len hsl
  have hlen1 := len_any (.slice (some ⟨g, 0, none⟩) (l ++ [p]).length cap) (l ++ [p]) w1 ⟨_, _, rfl⟩
  have hup := up_any b g cap (l ++ [p]) rest l.length (l.length + 1) hbg (by omega) (by omega) (by omega) w1 hsl hrow hx.out
  rw [hl1] at hml hlen1
  replace hlen1 := Lib.hid hlen1
  replace hup := Lib.hid hup
  replace hback := Lib.hid hback
  have eq1 : ((l.length + 1 : Nat) : Int) - 1 = (l.length : Int) := by omega
  clear hrow hsl hp1 hm
  go_wp2_with fail
  refine hlen1.out.mono ?_
  rintro e w2 ⟨rfl, rfl⟩
  clear hml hlen1
  go_wp2_with fail
  refine hup.out.mono ?_
  rintro e w3 ⟨rfl, l', h3, h4, h5⟩
  have hl' : l'.length = (l ++ [p]).length := h4.out.1.len
  have hb3 := hback.out w3 l' hl' h3.out h5.out
  have hF := Lib.hid hb3.1
  have hP := Lib.hid (And.intro (h4.out.1.1.trans List.perm_append_comm : l'.Perm (p :: l)) (show Heap l' l'.length by rw [hl', hl1]; exact h4.out.2))
  have hS := Lib.hid (And.intro (h2.out.1.trans h2.out.2 hb3.2) h2.out.2)
  clear hb3 hback hup h1 h2 h3 h4 h5 hx
  go_wp2_with fail
  go_end0
  exact ⟨rfl, _, l', hF, hP, hS⟩
theorem pop_end {W : World} {b g cap n : Nat} {l : List Pk} (hl : l.length = n + 1) (h : Fl W b (.slice (some ⟨g, 0, none⟩) (n + 1) cap) l) (o : Obj) :
    Fl ((W.setCell ⟨b, 0, none⟩ (.slice (some ⟨g, 0, none⟩) n cap)).alloc o) b (.slice (some ⟨g, 0, none⟩) n cap) (l.take n) ∧ FSame W b (.slice (some ⟨g, 0, none⟩) (n + 1) cap) ((W.setCell ⟨b, 0, none⟩ (.slice (some ⟨g, 0, none⟩) n cap)).alloc o) := by
  obtain ⟨hc, hf, ho, hb⟩ := h
  have hlt : b < W.heap.size := World.block_lt_of_cell? W ⟨b, 0, none⟩ hc
  have hbg : b ≠ g := fun e => hb (by simp [Value.ownBlock, e])
  obtain ⟨g', cap', rest, e, hcap, hr, hback⟩ := ho.row (by omega)
  rw [hl] at e
  injection e with e1 e2 e3
  injection e1 with e4
  injection e4 with e5
  subst e5 e3
  have hs : (W.setCell ⟨b, 0, none⟩ (.slice (some ⟨g, 0, none⟩) n cap)).heap.size = W.heap.size := by simp
  have hblk : ∀ k, k < W.heap.size → k ≠ b → ((W.setCell ⟨b, 0, none⟩ (.slice (some ⟨g, 0, none⟩) n cap)).alloc o).heap[k]? = W.heap[k]? := fun k hk h1 => by
    rw [heap_alloc_old _ _ (by omega), heap_setCell_other W ⟨b, 0, none⟩ k _ h1]
  have hglt : g < W.heap.size := (Array.getElem?_eq_some_iff.1 (show W.heap[g]? = _ from hr)).1
  refine ⟨⟨?_, ?_, ?_, fun e => hbg (by simpa [Value.ownBlock] using e.symm)⟩, ⟨rfl, rfl, rfl, by simp, fun k hk h1 _ => hblk k hk h1, fun j hj => ?_, fun j => ?_⟩⟩
  · rw [World.cell?_alloc_lt _ _ _ (by show b < _; omega)]
    exact World.cell?_setCell_same _ _ _ hc
  · have e1 : ((W.setCell ⟨b, 0, none⟩ (.slice (some ⟨g, 0, none⟩) n cap)).alloc o).frozen? ⟨b, 0, none⟩ = (W.setCell ⟨b, 0, none⟩ (.slice (some ⟨g, 0, none⟩) n cap)).frozen? ⟨b, 0, none⟩ := World.frozen?_of_block (heap_alloc_old _ _ (Nat.lt_of_lt_of_eq hlt hs.symm))
    rw [e1]; simpa using hf
  · exact hback _ l n (by omega) rfl (by
      unfold PRow
      rw [hblk g hglt (Ne.symm hbg)]
      exact hr)
  · rw [World.cell?_alloc_lt _ _ _ (by show b < _; omega), World.cell?_setCell_other _ _ _ _ (fun e => hj (by injection e with _ e2; exact e2.symm))]
  · have e1 : ((W.setCell ⟨b, 0, none⟩ (.slice (some ⟨g, 0, none⟩) n cap)).alloc o).frozen? ⟨b, j, none⟩ = (W.setCell ⟨b, 0, none⟩ (.slice (some ⟨g, 0, none⟩) n cap)).frozen? ⟨b, j, none⟩ := World.frozen?_of_block (heap_alloc_old _ _ (Nat.lt_of_lt_of_eq hlt hs.symm))
    rw [e1]; simp
set_option maxRecDepth 100000 in
set_option maxHeartbeats 4000000 in
theorem pop_any (b g cap n : Nat) (l : List Pk) (hl : l.length = n + 1) (hlen : n < 1000000) (W : World) (hfl : Fl W b (.slice (some ⟨g, 0, none⟩) (n + 1) cap) l) :
    Calls Try.prog 82 #[.pointer (some ⟨b, 0, none⟩)] W fun e w' => e = .returned (.iface 30 (pkVal (pat l n))) ∧ Hid (Fl w' b (.slice (some ⟨g, 0, none⟩) n cap) (l.take n)) ∧ Hid (FSame W b (.slice (some ⟨g, 0, none⟩) (n + 1) cap) w') := by
  have hend := Lib.hid (fun o => pop_end hl hfl o)
  have hc := hfl.1
  have hf := hfl.2.1
  have hb1 : b < W.heap.size := World.block_lt_of_cell? W ⟨b, 0, none⟩ hc
  have hbs : b ≠ W.heap.size := by omega
  obtain ⟨g', cap', rest, e, hbg, hcap, hr, -, -⟩ := hfl.row (by omega)
  rw [hl] at e hcap
  injection e with e1 e2 e3
  injection e1 with e4
  injection e4 with e5
  subst e5 e3
  obtain ⟨a0, a1, a2, a3, a4⟩ := hr.cells n (by omega)
  clear hr hfl hl
  unfold pkVal
  generalize pat l n = p at a0 a1 a2 a3 a4 ⊢
  have q1 : (((n + 1 : Nat) : Int) - 1) = (n : Int) := by omega
  have q2 : (n : Int) < ((n + 1 : Nat) : Int) := by omega
  have q3 : (n : Int) ≤ (cap : Int) := by omega
  go_enter Try.func82, Try.ntmps82
  go_wp2_with fail
  go_ret
  exact ⟨rfl, Lib.hid (hend.out _).1, Lib.hid (hend.out _).2⟩
theorem PTurn.at_end {n : Nat} {l l' : List Pk} (h : PTurn n l l') : pat l' n = pat l n := h.2 n (Nat.le_refl _)
theorem Downed.heap {l0 l : List Pk} {n i0 : Nat} {m : Bool} (h : Downed l0 l n i0 m) (hx : Exc l0 n i0) (ho : Over l0 i0) : Heap l n := by
  cases m
  · obtain ⟨rfl, hu⟩ := h.2.2 rfl
    exact hx.heap hu ho
  · exact h.2.1 rfl
set_option maxRecDepth 100000 in
set_option maxHeartbeats 4000000 in
theorem heapPop_any (b n : Nat) (v : Value) (l : List Pk) (hl : l.length = n + 1) (hlen : n < 1000000) (W : World) (hfl : Fl W b v l) (hh : Heap l (n + 1)) :
    Calls Try.prog 26 #[.iface 64 (.pointer (some ⟨b, 0, none⟩))] W fun e w' => e = .returned (.iface 30 (pkVal (pat l 0))) ∧ ∃ v' l', Hid (Fl w' b v' l') ∧ Hid ((pat l 0 :: l').Perm l ∧ Heap l' l'.length) ∧ Hid (FSame W b v w' ∧ Later W v v') := by
  obtain ⟨g, cap, rest, rfl, hbg, -, hrow, hsl, hback⟩ := hfl.row (by omega)
  have hx := Lib.hid (Exc.cut hh (by omega) (Nat.zero_le n))
  have hl1 : (pswp l 0 n).length = n + 1 := by rw [pswp_len, hl]
  have hml := method_at method_len hsl
  have hms := method_at method_swap hsl
  have hlen1 := len_any (.slice (some ⟨g, 0, none⟩) l.length cap) l W ⟨_, _, rfl⟩
  have hsw := swap_rel g cap l rest 0 n (by omega) (by omega) W hrow
  rw [hl] at hml hms hlen1 hsw
  replace hlen1 := Lib.hid hlen1
  replace hsw := Lib.hid hsw
  replace hback := Lib.hid hback
  replace hsl := Lib.hid hsl
  replace hfl := Lib.hid hfl
  replace hh := Lib.hid hh
  replace hrow := Lib.hid hrow
  have eq1 : ((n + 1 : Nat) : Int) - 1 = (n : Int) := by omega
  go_enter Try.func26, Try.ntmps26
  go_wp2_with fail
  refine hlen1.out.mono ?_
  rintro e w1 ⟨rfl, rfl⟩
  clear hml hlen1
  go_wp2_with fail
  refine hsw.out.mono ?_
  rintro e w2 ⟨rfl, h1, h2⟩
  have hsl2 : FSlice w2 b g (n + 1) cap := by
    have := h2.cell hbg hsl.out
    rwa [hl] at this
  have hdn := down_any b g cap (pswp l 0 n) rest 0 n hbg (Nat.zero_le _) (by omega) (by omega) w2 (by rw [hl1]; exact hsl2) h1 hx.out
  replace hdn := Lib.hid hdn
  replace h2 := Lib.hid h2
  clear hms hsw hsl2 h1
  go_wp2_with fail
  refine hdn.out.mono ?_
  rintro e w3 ⟨m, l3, rfl, h3, h4, h5⟩
  have hl3 : l3.length = n + 1 := by rw [h4.out.1.len, hl1]
  have hb3 := hback.out w3 l3 (by rw [hl3, hl]) h3.out (h2.out.trans h5.out)
  rw [hl] at hb3
  have hS3 := Lib.hid hb3.2
  have hpop := pop_any b g cap n l3 hl3 hlen w3 hb3.1
  have e0 : pat l3 n = pat l 0 := by
    rw [h4.out.1.at_end, pswp_at l 0 n n (by omega) (by omega), if_pos rfl]
  rw [e0] at hpop
  replace hpop := Lib.hid hpop
  have hP := Lib.hid (And.intro (cut_perm hl (Nat.zero_le n) h4.out.1) ((h4.out.heap hx.out (fun p hp => by unfold Child at hp; omega)).take (by omega)))
  have hm := method_pop
  clear hb3 hdn hback h2 h3 h4 h5 hl3 hl1 e0
  go_wp2_with fail
  refine hpop.out.mono ?_
  rintro e w4 ⟨rfl, h6, h7⟩
  have hS := Lib.hid (And.intro (hS3.out.trans (Later.refl _ _) h7.out) (show Later w1 (.slice (some ⟨g, 0, none⟩) (n + 1) cap) (.slice (some ⟨g, 0, none⟩) n cap) from fun k hk => .inl hk))
  rw [← hl] at hS
  clear hpop h7 hS3 hm
  go_wp2_with fail
  go_ret
  exact ⟨rfl, _, _, h6, hP, hS⟩
end Go.Proofs.Ytjopbglimjhefaa
