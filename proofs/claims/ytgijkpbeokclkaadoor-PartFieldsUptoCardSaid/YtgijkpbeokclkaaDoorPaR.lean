/- PartFields: walked. -/
import Derived.Test.YtgijkpbeokclkaaDoorPaQ
namespace Go.Proofs.YtgijkpbeokclkaaDoor
open Go.RowKit Go.Shelf
attribute [local go_sem] Oper.semAt_some

/-- all that lay in W0 lies as it lay, but for blocks b1, b2 -/
def Kx (W0 : World) (b1 b2 : Nat) (W : World) : Prop := W.os = W0.os ∧ W.tape = W0.tape ∧ W.output = W0.output ∧ W0.heap.size ≤ W.heap.size ∧ ∀ k, k < W0.heap.size → k ≠ b1 → k ≠ b2 → W.heap[k]? = W0.heap[k]?
theorem Kx.refl (W : World) (b1 b2 : Nat) : Kx W b1 b2 W := ⟨rfl, rfl, rfl, Nat.le_refl _, fun _ _ _ _ => rfl⟩
theorem Kx.set {W0 W : World} {b1 b2 b : Nat} (h : Kx W0 b1 b2 W) (hb : b = b1 ∨ b = b2) (v : Value) : Kx W0 b1 b2 (W.setCell ⟨b, 0, none⟩ v) :=
  ⟨h.1, h.2.1, h.2.2.1, by have := h.2.2.2.1; simpa using this, fun k hk h1 h2 => by
    rw [heap_setCell_other W ⟨b, 0, none⟩ k v (by rcases hb with rfl | rfl <;> (show k ≠ _; omega))]
    exact h.2.2.2.2 k hk h1 h2⟩
theorem Kx.own {β : Type} (W0 : World) (b1 b2 : Nat) : OwnFrom W0.heap.size (fun (_ : β) W => Kx W0 b1 b2 W) := fun _ A B row hs hg hr =>
  ⟨hg.os.trans hs.1, hg.tape.trans hs.2.1, hg.output.trans hs.2.2.1, Nat.le_trans hs.2.2.2.1 hg.size, fun k hk h1 h2 => by
    rw [hg.block k (Nat.lt_of_lt_of_le hk hs.2.2.2.1) (fun e => by have := (hr k e.symm).1; omega)]
    exact hs.2.2.2.2 k hk h1 h2⟩
theorem Kx.below {w W0 W : World} {b1 b2 : Nat} (h : Kx W0 b1 b2 W) (hb : Below w.heap.size w W0) (h1 : w.heap.size ≤ b1) (h2 : w.heap.size ≤ b2) : Below w.heap.size w W :=
  ⟨h.1.trans hb.os, h.2.1.trans hb.tape, h.2.2.1.trans hb.output, Nat.le_trans hb.size h.2.2.2.1, fun k hk => (h.2.2.2.2 k (Nat.lt_of_lt_of_le hk hb.size) (by omega) (by omega)).trans (hb.block k hk)⟩
theorem Kx.box {W0 W : World} {b1 b2 b : Nat} {t : TypeId} {v : Value} (h : Kx W0 b1 b2 W) (hb : Boxed W0 b t v) (h1 : b ≠ b1) (h2 : b ≠ b2) : Boxed W b t v := (h.2.2.2.2 b hb.lt h1 h2).trans hb
theorem Kx.cell {W0 W : World} {b1 b2 b j : Nat} {v : Value} (h : Kx W0 b1 b2 W) (hb : W0.cell? ⟨b, j, none⟩ = some v) (h1 : b ≠ b1) (h2 : b ≠ b2) : W.cell? ⟨b, j, none⟩ = some v :=
  (World.cell?_of_block (a := ⟨b, j, none⟩) (h.2.2.2.2 b (World.block_lt_of_cell? W0 ⟨b, j, none⟩ hb) h1 h2)).trans hb
set_option maxRecDepth 100000 in
set_option maxHeartbeats 4000000 in
theorem partFields_any (s N : ByteArray) (st : Int) (hs : s.size ≤ 1048576) (hN : N.size ≤ 1048576) (w : World) (hm : ∃ m, w.cell? ⟨0, 0, none⟩ = some (.int .i64 m)) :
    Calls Tryd.prog 3 #[.string s, .string N, .int .i64 st] w fun e w' => e = .returned (.bool true) ∧ Below w.heap.size w w' := by
  obtain ⟨m, hm⟩ := hm
  have h0 := heap_pos hm
  have hmb := Lib.hid (fun w' (h : Below w.heap.size w w') => (h.cell (p := ⟨0, 0, none⟩) (by show 0 < _; omega)).trans hm)
  have hal := Lib.hid (fun w' (h : Below w.heap.size w w') => alive_any m w' (hmb.out w' h) (Nat.le_trans h0 h.size))
  have hrf := Lib.hid (refFields_any s (by omega))
  have hf1 := Lib.hid (fun w' (h : Below w.heap.size w w') => field_any s N (by omega) (by omega) m w' (hmb.out w' h) (Nat.le_trans h0 h.size))
  have hf2 := Lib.hid (fun w' => refField_any s N (by omega) (by omega) w')
  clear hm
  refine (callsIn_wide (n := 3)).1 ?_
  refine callsIn_of_wp_marks Tryd.func3 rfl trivial ?_ rfl
  simp only [Tryd.ntmps3, List.size_toArray, List.length_cons, List.length_nil, Nat.reduceAdd, Nat.reduceSub, Array.replicate_succ, Array.replicate_zero, List.push_toArray, List.append_toArray, List.nil_append, List.cons_append]
  gi_wp2
  have hB0 : Below w.heap.size w ((w.alloc (.cells #[.int .i64 st] 3)).alloc (.cells #[.bool false] 4)) := ((Below.refl _ w).alloc (Nat.le_refl _) _).alloc (by simp) _
  have hst0 : Boxed ((w.alloc (.cells #[.int .i64 st] 3)).alloc (.cells #[.bool false] 4)) w.heap.size 3 (.int .i64 st) := (Boxed.new w 3 (.int .i64 st)).alloc _
  have hrt0 := Boxed.new (w.alloc (.cells #[.int .i64 st] 3)) 4 (.bool false)
  rw [World.size_alloc] at hrt0
  generalize ((w.alloc (.cells #[.int .i64 st] 3)).alloc (.cells #[.bool false] 4)) = Wa at hB0 hst0 hrt0 ⊢
  refine ⟨trivial, (callsIn_wide.2 (hal.out Wa hB0)).mono ?_⟩
  rintro e Wb ⟨rfl, hbb⟩
  have hB1 := hB0.trans (hbb.out.mono hB0.size)
  have hst1 := boxed_below hst0 hbb.out
  have hrt1 := boxed_below hrt0 hbb.out
  clear hB0 hst0 hrt0 hbb
  gi_wp2
  refine ⟨trivial, (callsIn_wide.2 (hrf.out Wb)).mono ?_⟩
  rintro e Wc ⟨vw, rfl, hown, hbc⟩
  have hB2 := hB1.trans (hbc.out.mono hB1.size)
  have hst2 := boxed_below hst1 hbc.out
  have hrt2 := boxed_below hrt1 hbc.out
  have hrt2x := hrt1.lt
  clear hB1 hst1 hrt1 hbc
  have hretb0 := hrt2x
  obtain ⟨ao, cap, rfl⟩ := hown.out.form
  gi_wp2
  generalize hL : fieldsL s.data.toList = L at hown ⊢
  have hLl := fields_len s.data.toList
  rw [hL, show s.data.toList.length = s.size from rfl] at hLl
  have hretb : w.heap.size + 1 < Wc.heap.size := hrt2.lt
  have hB3 : Below w.heap.size w ((Wc.alloc (.cells #[.slice ao L.length cap] 23)).alloc (.cells #[.int .i64 0] 3)) := (hB2.alloc hB2.size _).alloc (by have := hB2.size; simp; omega) _
  have hst3 : Boxed ((Wc.alloc (.cells #[.slice ao L.length cap] 23)).alloc (.cells #[.int .i64 0] 3)) w.heap.size 3 (.int .i64 st) := (hst2.alloc _).alloc _
  have hrt3 : Boxed ((Wc.alloc (.cells #[.slice ao L.length cap] 23)).alloc (.cells #[.int .i64 0] 3)) (w.heap.size + 1) 4 (.bool false) := (hrt2.alloc _).alloc _
  have hwt3 : Boxed ((Wc.alloc (.cells #[.slice ao L.length cap] 23)).alloc (.cells #[.int .i64 0] 3)) Wc.heap.size 23 (.slice ao L.length cap) := (Boxed.new _ _ _).alloc _
  have hro3 := Boxed.new (Wc.alloc (.cells #[.slice ao L.length cap] 23)) 3 (.int .i64 0)
  rw [World.size_alloc] at hro3
  have hretB : w.heap.size + 1 < Wb.heap.size := hretb0
  have hrc3 : ∀ j, (h : j < L.length) → ∃ g, ao = some ⟨g, 0, none⟩ ∧ w.heap.size + 1 < g ∧ g < Wc.heap.size ∧ ((Wc.alloc (.cells #[.slice ao L.length cap] 23)).alloc (.cells #[.int .i64 0] 3)).cell? ⟨g, j * 2, none⟩ = some (.string (mkB L[j].1)) ∧ ((Wc.alloc (.cells #[.slice ao L.length cap] 23)).alloc (.cells #[.int .i64 0] 3)).cell? ⟨g, j * 2 + 1, none⟩ = some (.string (mkB L[j].2)) := fun j h => by
    have hbb := ((Below.refl _ Wc).alloc (Nat.le_refl _) (.cells #[.slice ao L.length cap] 23)).alloc (by simp) (.cells #[.int .i64 0] 3)
    obtain ⟨g, rfl, h1, h2, _⟩ := hown.out.pos (by omega)
    have := hown.out.cells j h
    exact ⟨g, rfl, by omega, h2, (hbb.cell (p := ⟨g, j * 2, none⟩) h2).trans this.1, (hbb.cell (p := ⟨g, j * 2 + 1, none⟩) h2).trans this.2⟩
  have hbw : Wc.heap.size < Wc.heap.size + 1 := Nat.lt_succ_self _
  clear hown
  generalize hWd : ((Wc.alloc (.cells #[.slice ao L.length cap] 23)).alloc (.cells #[.int .i64 0] 3)) = Wd at hB3 hst3 hrt3 hwt3 hro3 hrc3 ⊢
  clear hWd hB2 hst2 hrt2
  generalize hbw' : Wc.heap.size = bw at hretb hwt3 hro3 hrc3 hbw ⊢
  generalize bw + 1 = bo at hro3 hbw ⊢
  clear hbw'
  refine wpIn_loop_rounds 3 ?_
  rw [roundsIn_succ]
  have cro := hro3.cell
  gi_wp2
  refine ⟨trivial, (callsIn_wide.2 (fields_in _ _)).mono ?_⟩
  rintro e We ⟨rfl, rfl⟩
  clear cro
  gi_wp2
  have hxi := (Boxed.new Wd 3 (.int .i64 0)).alloc (.cells #[.string s] 9)
  have hxm := Boxed.new (Wd.alloc (.cells #[.int .i64 0] 3)) 9 (.string s)
  rw [World.size_alloc] at hxm
  have hxs := (hst3.alloc (.cells #[.int .i64 0] 3)).alloc (.cells #[.string s] 9)
  have hxr := (hrt3.alloc (.cells #[.int .i64 0] 3)).alloc (.cells #[.string s] 9)
  have hxw := (hwt3.alloc (.cells #[.int .i64 0] 3)).alloc (.cells #[.string s] 9)
  have hxo := (hro3.alloc (.cells #[.int .i64 0] 3)).alloc (.cells #[.string s] 9)
  have hxbb := ((Below.refl _ Wd).alloc (Nat.le_refl _) (.cells #[.int .i64 0] 3)).alloc (by simp) (.cells #[.string s] 9)
  have hxB := (hB3.alloc hB3.size (.cells #[.int .i64 0] 3)).alloc (by have := hB3.size; simp; omega) (.cells #[.string s] 9)
  have hxz : ((Wd.alloc (.cells #[.int .i64 0] 3)).alloc (.cells #[.string s] 9)).heap.size = Wd.heap.size + 2 := by simp
  have hbo := hro3.lt
  generalize (Wd.alloc (.cells #[.int .i64 0] 3)).alloc (.cells #[.string s] 9) = W0 at hxi hxm hxs hxr hxw hxo hxbb hxB hxz ⊢
  generalize Wd.heap.size = bi at hxi hxm hxz hbo hxbb ⊢
  clear hB3 hst3 hrt3 hwt3 hro3
  have hxc : ∀ j, (h : j < L.length) → ∃ g, ao = some ⟨g, 0, none⟩ ∧ w.heap.size + 1 < g ∧ g < bw ∧ W0.cell? ⟨g, j * 2, none⟩ = some (.string (mkB L[j].1)) ∧ W0.cell? ⟨g, j * 2 + 1, none⟩ = some (.string (mkB L[j].2)) := fun j h => by
    obtain ⟨g, rfl, h1, h2, h3, h4⟩ := hrc3 j h
    exact ⟨g, rfl, h1, h2, (hxbb.cell (p := ⟨g, j * 2, none⟩) (by show g < bi; omega)).trans h3, (hxbb.cell (p := ⟨g, j * 2 + 1, none⟩) (by show g < bi; omega)).trans h4⟩
  clear hrc3
  have hst := fields_stops 2 (by decide) W0.heap.size (bi + 1) s (by omega) m W0 (Nat.le_refl _) (by omega) (by omega) (hmb.out W0 hxB) hxm.cell
  rw [hL] at hst
  refine wpIn_mono (Q := fun e a' W => (e = .normal ∨ e = .exit 2) ∧ ∃ D, W0.heap.size ≤ D ∧ a' = { tmps := #[.string s, .string N, .int .i64 st, undef, undef, .pointer (some ⟨w.heap.size, 0, none⟩), .pointer (some ⟨w.heap.size + 1, 0, none⟩), .pointer (some ⟨bw, 0, none⟩), .pointer (some ⟨bo, 0, none⟩), .pointer (some ⟨bi, 0, none⟩), undef, undef, undef, undef, undef, undef, .bool true, .bool false, .string s, .slice ao L.length cap, .int .i64 0, .bool true, undef, undef, .string s, .func (.func 24) #[] #[.pointer (some ⟨bi + 1, 0, none⟩)], undef, undef, undef, undef, undef, undef, undef, undef, undef, undef, undef, undef, undef, undef, undef, undef, undef, undef, undef, undef, undef, undef, undef, undef, undef, undef, undef, undef, undef, undef, undef, undef, undef, undef, undef, undef, undef, undef, undef, undef, undef, undef, undef, undef, undef, undef, undef, undef, undef, undef, undef, undef, undef, undef, undef, undef, undef, undef, undef, undef, undef, undef, undef, undef, undef, undef, undef], defers := { target := .collected D, args := #[] } :: [] } ∧ (∃ i : Nat, Boxed W bi 3 (.int .i64 i) ∧ (i = L.length ∨ (0 = 0 ∧ (i : Int) = st))) ∧ Boxed W (w.heap.size + 1) 4 (.bool false) ∧ Kx W0 bi (w.heap.size + 1) W ∧ W.heap[D]? = some (.deferred (some []))) ?_ ?_
  · refine wpIn_rangeFunc_ownG rfl (by decide) (gf := 24) (lb := #[.pointer (some ⟨bi + 1, 0, none⟩)]) rfl trivial (enters_of Tryd.func24 (by kernel_rfl) rfl)
      hst (fun h k => h.trans k) (fun W l o o' => KpC.put (by omega) W l o o') (Below.refl _ _) (fun _ => rfl)
      (fun pre W => (vals pre <+: L ∧ Boxed W bi 3 (.int .i64 pre.length) ∧ Boxed W (w.heap.size + 1) 4 (.bool false)) ∧ Kx W0 bi (w.heap.size + 1) W)
      (fun c pre W => (c = .ret ∧ ¬ (vals pre <+: L)) ∨ (c = .exit 2 ∧ (0 = 0 ∧ (pre.length : Int) = st) ∧ (Boxed W bi 3 (.int .i64 pre.length) ∧ Boxed W (w.heap.size + 1) 4 (.bool false)) ∧ Kx W0 bi (w.heap.size + 1) W))
      (OwnFrom.and (Own.from (fun s A B row hs hg hr => ⟨hs.1, boxed_own (β := Unit) _ _ (fun _ => _) () A B row hs.2.1 hg hr, boxed_own (β := Unit) _ _ (fun _ => _) () A B row hs.2.2 hg hr⟩) _) (Kx.own _ _ _))
      (fun c s A B row hs hg hr => by
        rcases hs with hs | ⟨h1, h2, h3, h4⟩
        · exact .inl hs
        · exact .inr ⟨h1, h2, ⟨boxed_own (β := Unit) _ _ (fun _ => _) () A B row h3.1 hg (fun r e => (hr r e).2), boxed_own (β := Unit) _ _ (fun _ => _) () A B row h3.2 hg (fun r e => (hr r e).2)⟩, Kx.own (β := Unit) _ _ _ () A B row h4 hg hr⟩)
      ⟨⟨List.nil_prefix, hxi, hxr⟩, Kx.refl _ _ _⟩
      (fun x => { tmps := #[.string s, .string N, .int .i64 st, undef, undef, .pointer (some ⟨w.heap.size, 0, none⟩), .pointer (some ⟨w.heap.size + 1, 0, none⟩), .pointer (some ⟨bw, 0, none⟩), .pointer (some ⟨bo, 0, none⟩), .pointer (some ⟨bi, 0, none⟩), encStr x.1.1, encStr x.1.2, undef, undef, undef, undef, .bool true, .bool false, .string s, .slice ao L.length cap, .int .i64 0, .bool true, undef, undef, .string s, .func (.func 24) #[] #[.pointer (some ⟨bi + 1, 0, none⟩)], encStr x.1.1, encStr x.1.2, undef, undef, undef, undef, undef, undef, undef, undef, undef, undef, undef, undef, undef, undef, undef, undef, undef, undef, undef, undef, undef, undef, undef, undef, undef, undef, undef, undef, undef, undef, undef, undef, undef, undef, undef, undef, undef, undef, undef, undef, undef, undef, undef, undef, undef, undef, undef, undef, undef, undef, undef, undef, undef, undef, undef, undef, undef, undef, undef, undef, undef, undef, undef, undef, undef], defers := [] }) ?assign ?body ?done ?stop
    case assign =>
      intro l x W K hK
      simp only [encF]
      gi_wp2
      exact hK
    case body =>
      rintro l pre x W ⟨⟨hp, hi, hr⟩, hK⟩ _
      have e1 : ∀ l, encStr l = .string (mkB l) := fun _ => rfl
      have cst := (hK.box hxs (by omega) (by omega)).cell
      have cwt := (hK.box hxw (by omega) (by omega)).cell
      have cro := (hK.box hxo (by omega) (by omega)).cell
      have ci := hi.cell
      have fi := hi.frozen
      have cr := hr.cell
      have fr := hr.frozen
      have hxv : vals (pre ++ [x]) = vals pre ++ [x.1] := by rw [vals, List.map_append]; rfl
      have hvl : (vals pre).length = pre.length := by rw [vals, List.length_map]
      have hpl : pre.length ≤ L.length := by have := hp.length_le; omega
      simp only [e1]
      by_cases hlt : pre.length < L.length
      · obtain ⟨g, rfl, hg1, hg2, hc1, hc2⟩ := hxc pre.length hlt
        replace hc1 := hK.cell hc1 (by omega) (by omega)
        replace hc2 := hK.cell hc2 (by omega) (by omega)
        have hpre : vals pre = L.take pre.length := by rw [← hvl]; exact List.prefix_iff_eq_take.1 hp
        have hnx : vals (pre ++ [x]) <+: L ↔ x.1 = L[pre.length] := by
          rw [hxv, hpre]
          constructor
          · intro h
            have := List.prefix_iff_eq_take.1 h
            rw [List.length_append, List.length_take, Nat.min_eq_left hpl] at this
            rw [show pre.length + [x.1].length = pre.length + 1 from rfl, List.take_succ_eq_append_getElem hlt] at this
            have := List.append_cancel_left this
            simpa using this
          · intro h
            rw [h, ← List.take_succ_eq_append_getElem hlt]; exact List.take_prefix _ _
        have hq1 : ((mkB L[pre.length].1).toList == (mkB x.1.1).toList) = decide (L[pre.length].1 = x.1.1) := by
          by_cases h : L[pre.length].1 = x.1.1
          · rw [h, decide_eq_true rfl, beq_iff_eq]
          · rw [decide_eq_false h]; exact ne_up h
        have hq2 : ((mkB L[pre.length].2).toList == (mkB x.1.2).toList) = decide (L[pre.length].2 = x.1.2) := by
          by_cases h : L[pre.length].2 = x.1.2
          · rw [h, decide_eq_true rfl, beq_iff_eq]
          · rw [decide_eq_false h]; exact ne_up h
        generalize mkB L[pre.length].1 = Y1 at hc1 hq1
        generalize mkB L[pre.length].2 = Y2 at hc2 hq2
        generalize mkB x.1.1 = X1 at hq1 ⊢
        generalize mkB x.1.2 = X2 at hq2 ⊢
        have hpl2 : (pre ++ [x]).length = pre.length + 1 := by simp
        replace hxv := Lib.hid hxv
        replace hpre := Lib.hid hpre
        replace hvl := Lib.hid hvl
        replace hnx := Lib.hid hnx
        replace hpl2 := Lib.hid hpl2
        by_cases h1 : L[pre.length].1 = x.1.1
        · rw [decide_eq_true h1] at hq1
          by_cases h2 : L[pre.length].2 = x.1.2
          · rw [decide_eq_true h2] at hq2
            have hpn : Hid (vals (pre ++ [x]) <+: L) := Lib.hid (hnx.out.2 (Prod.ext h1.symm h2.symm))
            replace h1 := Lib.hid h1
            replace h2 := Lib.hid h2
            have hsi := hi.set (.int .i64 ((pre.length : Int) + 1))
            have k1 := hsi.cell
            have k2 := ((hK.box hxo (by omega) (by omega)).other (B' := bi) (by omega) (.int .i64 ((pre.length : Int) + 1))).cell
            have k3 := ((hK.box hxs (by omega) (by omega)).other (B' := bi) (by omega) (.int .i64 ((pre.length : Int) + 1))).cell
            have hsr := hr.other (B' := bi) (by omega) (.int .i64 ((pre.length : Int) + 1))
            have hKs := hK.set (.inl rfl) (.int .i64 ((pre.length : Int) + 1))
            have hkp := (KpC.refl W0.heap.size W).setCell ⟨bi, 0, none⟩ (.int .i64 ((pre.length : Int) + 1)) (by show 1 ≤ bi; omega) (by show bi < _; omega)
            have hkf := keeps_set (KeepsFrom.refl W0.heap.size W) ⟨bi, 0, none⟩ (.int .i64 ((pre.length : Int) + 1))
            have hpi : Hid (((pre ++ [x]).length : Int) = (pre.length : Int) + 1) := Lib.hid (by rw [hpl2.out]; rfl)
            generalize hWs : W.setCell ⟨bi, 0, none⟩ (.int .i64 ((pre.length : Int) + 1)) = Ws at k1 k2 k3 hsi hsr hKs hkp hkf
            rw [← hpi.out] at hsi
            replace hsi := Lib.hid hsi
            by_cases hs0 : ((pre.length : Int) + 1) = st
            · have hb0 : (((pre.length : Int) + 1) == st) = true := beq_iff_eq.2 hs0
              replace hs0 := Lib.hid hs0
              gi_wp2
              first | exact ⟨hkf, .inr ⟨rfl, ⟨rfl, hpi.out.trans hs0.out⟩, ⟨hsi.out, hsr⟩, hKs⟩⟩ | exact ⟨hkf, .inr ⟨rfl, ⟨trivial, hpi.out.trans hs0.out⟩, ⟨hsi.out, hsr⟩, hKs⟩⟩
            · have hb0 : (((pre.length : Int) + 1) == st) = false := beq_eq_false_iff_ne.2 hs0
              replace hs0 := Lib.hid hs0
              gi_wp2
              exact ⟨hkf, hkp, ⟨hpn.out, hsi.out, hsr⟩, hKs⟩
          · rw [decide_eq_false h2] at hq2
            have hpn : Hid (¬ (vals (pre ++ [x]) <+: L)) := Lib.hid (fun h => h2 (by rw [hnx.out.1 h]))
            replace h1 := Lib.hid h1
            replace h2 := Lib.hid h2
            gi_wp2
            exact ⟨keeps_set (KeepsFrom.refl _ _) _ _, .inl ⟨rfl, hpn.out⟩⟩
        · rw [decide_eq_false h1] at hq1
          have hpn : Hid (¬ (vals (pre ++ [x]) <+: L)) := Lib.hid (fun h => h1 (by rw [hnx.out.1 h]))
          replace h1 := Lib.hid h1
          gi_wp2
          exact ⟨keeps_set (KeepsFrom.refl _ _) _ _, .inl ⟨rfl, hpn.out⟩⟩
      · have hpn : Hid (¬ (vals (pre ++ [x]) <+: L)) := Lib.hid (fun h => by
          have := h.length_le
          rw [hxv, List.length_append, hvl] at this
          simp at this; omega)
        have hpe : ((L.length : Int) ≤ (pre.length : Int)) := by omega
        clear hxc
        gi_wp2
        exact ⟨keeps_set (KeepsFrom.refl _ _) _ _, .inl ⟨rfl, hpn.out⟩⟩
    case done =>
      rintro D ys W hD hys ⟨⟨hp, hi, hr⟩, hK⟩ hKd
      exact ⟨.inl rfl, D, hD, rfl, ⟨ys.length, hi, .inl (by rw [← hys, vals, List.length_map])⟩, hr, hK, hKd⟩
    case stop =>
      rintro D c pre W hD hpre h hKd
      rcases h with ⟨_, h⟩ | ⟨rfl, h1, ⟨h2, h3⟩, h4⟩
      · exact absurd hpre h
      · refine wpIn_exit ?_
        exact ⟨.inr rfl, D, hD, rfl, ⟨pre.length, h2, .inr h1⟩, h3, h4, hKd⟩
  · rintro e a' W ⟨he, D1, hD1, rfl, ⟨i, hi, hil⟩, hr, hK, hKd1⟩
    have hgo : ∀ (Q : Exit → Act → World → Prop) (A : Act), Exit.inBlock 2 Q .normal A W → Exit.inBlock 2 Q e A W := fun Q A h => by
      rcases he with rfl | rfl
      · exact h
      · exact h
    refine hgo _ _ ?_
    clear hgo he
    have hst3 := hK.box hxs (by omega) (by omega)
    have hwt3 := hK.box hxw (by omega) (by omega)
    have hro3 := hK.box hxo (by omega) (by omega)
    have hB3 := hK.below hxB (by omega) (by omega)
    have hzW := hK.2.2.2.1
    have hDW : D1 < W.heap.size := (Array.getElem?_eq_some_iff.1 hKd1).1
    have hrc3 : ∀ j, (h : j < L.length) → ∃ g, ao = some ⟨g, 0, none⟩ ∧ w.heap.size + 1 < g ∧ g < bw ∧ W.cell? ⟨g, j * 2, none⟩ = some (.string (mkB L[j].1)) ∧ W.cell? ⟨g, j * 2 + 1, none⟩ = some (.string (mkB L[j].2)) := fun j h => by
      obtain ⟨g, rfl, h1, h2, h3, h4⟩ := hxc j h
      exact ⟨g, rfl, h1, h2, hK.cell h3 (by omega) (by omega), hK.cell h4 (by omega) (by omega)⟩
    have ci := hi.cell
    have cst := hst3.cell
    have cwt := hwt3.cell
    have cro := hro3.cell
    clear hK hxi hxm hxs hxr hxw hxo hxbb hxB hxc hst
    by_cases hiL : i = L.length
    · have hq : ((i : Int) != (L.length : Int)) = false := by rw [hiL]; simp
      subst hiL
      clear hil hq
      gi_wp2
      have hD1g : w.heap.size + 1 < D1 := by omega
      clear ci cst cwt cro hi hzW hD1 hxz hbo
      have hbw := hwt3.lt
      have hbd := (Below.refl _ W).alloc (Nat.le_refl _) (.cells #[.int .i64 1] 3)
      replace hB3 := hB3.alloc hB3.size (.cells #[.int .i64 1] 3)
      replace hst3 := hst3.alloc (.cells #[.int .i64 1] 3)
      have hrt3 := hr.alloc (.cells #[.int .i64 1] 3)
      replace hwt3 := hwt3.alloc (.cells #[.int .i64 1] 3)
      replace hro3 := Boxed.new W 3 (.int .i64 1)
      replace hKd1 := (hbd.block D1 hDW).trans hKd1
      have hrc4 : ∀ j, (h : j < L.length) → ∃ g, ao = some ⟨g, 0, none⟩ ∧ w.heap.size + 1 < g ∧ g < bw ∧ (W.alloc (.cells #[.int .i64 1] 3)).cell? ⟨g, j * 2, none⟩ = some (.string (mkB L[j].1)) ∧ (W.alloc (.cells #[.int .i64 1] 3)).cell? ⟨g, j * 2 + 1, none⟩ = some (.string (mkB L[j].2)) := fun j h => by
        obtain ⟨g, rfl, h1, h2, h3, h4⟩ := hrc3 j h
        exact ⟨g, rfl, h1, h2, (hbd.cell (p := ⟨g, j * 2, none⟩) (by show g < W.heap.size; omega)).trans h3, (hbd.cell (p := ⟨g, j * 2 + 1, none⟩) (by show g < W.heap.size; omega)).trans h4⟩
      replace hrc3 := hrc4
      clear hrc4 hbd hr
      have hDl : D1 < (W.alloc (.cells #[.int .i64 1] 3)).heap.size := by simp; omega
      generalize W.alloc (.cells #[.int .i64 1] 3) = Wd2 at hB3 hst3 hrt3 hwt3 hro3 hKd1 hrc3 hDl ⊢
      generalize W.heap.size = bo2 at hbw hro3 hDW ⊢
      rw [roundsIn_succ]
      have cro := hro3.cell
      gi_wp2
      refine ⟨trivial, (callsIn_wide.2 (fields_in _ _)).mono ?_⟩
      rintro e We ⟨rfl, rfl⟩
      clear cro
      gi_wp2
      have hxi := (Boxed.new Wd2 3 (.int .i64 0)).alloc (.cells #[.string s] 9)
      have hxm := Boxed.new (Wd2.alloc (.cells #[.int .i64 0] 3)) 9 (.string s)
      rw [World.size_alloc] at hxm
      have hxs := (hst3.alloc (.cells #[.int .i64 0] 3)).alloc (.cells #[.string s] 9)
      have hxr := (hrt3.alloc (.cells #[.int .i64 0] 3)).alloc (.cells #[.string s] 9)
      have hxw := (hwt3.alloc (.cells #[.int .i64 0] 3)).alloc (.cells #[.string s] 9)
      have hxo := (hro3.alloc (.cells #[.int .i64 0] 3)).alloc (.cells #[.string s] 9)
      have hxbb := ((Below.refl _ Wd2).alloc (Nat.le_refl _) (.cells #[.int .i64 0] 3)).alloc (by simp) (.cells #[.string s] 9)
      have hxB := (hB3.alloc hB3.size (.cells #[.int .i64 0] 3)).alloc (by have := hB3.size; simp; omega) (.cells #[.string s] 9)
      have hxz : ((Wd2.alloc (.cells #[.int .i64 0] 3)).alloc (.cells #[.string s] 9)).heap.size = Wd2.heap.size + 2 := by simp
      have hxd := (hxbb.block D1 hDl).trans hKd1
      have hbo := hro3.lt
      generalize (Wd2.alloc (.cells #[.int .i64 0] 3)).alloc (.cells #[.string s] 9) = W0 at hxi hxm hxs hxr hxw hxo hxbb hxB hxz hxd ⊢
      generalize Wd2.heap.size = bi at hxi hxm hxz hbo hxbb hDl ⊢
      clear hB3 hst3 hrt3 hwt3 hro3
      have hxc : ∀ j, (h : j < L.length) → ∃ g, ao = some ⟨g, 0, none⟩ ∧ w.heap.size + 1 < g ∧ g < bw ∧ W0.cell? ⟨g, j * 2, none⟩ = some (.string (mkB L[j].1)) ∧ W0.cell? ⟨g, j * 2 + 1, none⟩ = some (.string (mkB L[j].2)) := fun j h => by
        obtain ⟨g, rfl, h1, h2, h3, h4⟩ := hrc3 j h
        exact ⟨g, rfl, h1, h2, (hxbb.cell (p := ⟨g, j * 2, none⟩) (by show g < bi; omega)).trans h3, (hxbb.cell (p := ⟨g, j * 2 + 1, none⟩) (by show g < bi; omega)).trans h4⟩
      clear hrc3
      have hst := fields_stops 2 (by decide) W0.heap.size (bi + 1) s (by omega) m W0 (Nat.le_refl _) (by omega) (by omega) (hmb.out W0 hxB) hxm.cell
      rw [hL] at hst
      refine wpIn_mono (Q := fun e a' W => (e = .normal ∨ e = .exit 2) ∧ ∃ D, W0.heap.size ≤ D ∧ a' = { tmps := #[.string s, .string N, .int .i64 st, undef, undef, .pointer (some ⟨w.heap.size, 0, none⟩), .pointer (some ⟨w.heap.size + 1, 0, none⟩), .pointer (some ⟨bw, 0, none⟩), .pointer (some ⟨bo2, 0, none⟩), .pointer (some ⟨bi, 0, none⟩), undef, undef, undef, undef, undef, undef, .bool true, .bool false, .string s, .slice ao L.length cap, .int .i64 1, .bool true, .int .i64 0, .int .i64 1, .string s, .func (.func 24) #[] #[.pointer (some ⟨bi + 1, 0, none⟩)], undef, undef, undef, undef, undef, undef, undef, undef, undef, undef, undef, undef, undef, undef, undef, undef, undef, undef, undef, undef, undef, undef, undef, undef, undef, undef, undef, undef, undef, undef, undef, undef, undef, .int .i64 L.length, .slice ao L.length cap, .int .i64 L.length, .bool false, .bool false, undef, undef, undef, undef, undef, undef, undef, .bool false, .int .i64 0, undef, undef, undef, undef, undef, undef, undef, undef, undef, undef, undef, undef, undef, undef, undef, undef, undef, undef, undef, undef], defers := { target := .collected D, args := #[] } :: [{ target := .collected D1, args := #[] }] } ∧ (∃ i : Nat, Boxed W bi 3 (.int .i64 i) ∧ (i = L.length ∨ (1 = 0 ∧ (i : Int) = st))) ∧ Boxed W (w.heap.size + 1) 4 (.bool false) ∧ Kx W0 bi (w.heap.size + 1) W ∧ W.heap[D]? = some (.deferred (some []))) ?_ ?_
      · refine wpIn_rangeFunc_ownG rfl (by decide) (gf := 24) (lb := #[.pointer (some ⟨bi + 1, 0, none⟩)]) rfl trivial (enters_of Tryd.func24 (by kernel_rfl) rfl)
          hst (fun h k => h.trans k) (fun W l o o' => KpC.put (by omega) W l o o') (Below.refl _ _) (fun _ => rfl)
          (fun pre W => (vals pre <+: L ∧ Boxed W bi 3 (.int .i64 pre.length) ∧ Boxed W (w.heap.size + 1) 4 (.bool false)) ∧ Kx W0 bi (w.heap.size + 1) W)
          (fun c pre W => (c = .ret ∧ ¬ (vals pre <+: L)) ∨ (c = .exit 2 ∧ (1 = 0 ∧ (pre.length : Int) = st) ∧ (Boxed W bi 3 (.int .i64 pre.length) ∧ Boxed W (w.heap.size + 1) 4 (.bool false)) ∧ Kx W0 bi (w.heap.size + 1) W))
          (OwnFrom.and (Own.from (fun s A B row hs hg hr => ⟨hs.1, boxed_own (β := Unit) _ _ (fun _ => _) () A B row hs.2.1 hg hr, boxed_own (β := Unit) _ _ (fun _ => _) () A B row hs.2.2 hg hr⟩) _) (Kx.own _ _ _))
          (fun c s A B row hs hg hr => by
            rcases hs with hs | ⟨h1, h2, h3, h4⟩
            · exact .inl hs
            · exact .inr ⟨h1, h2, ⟨boxed_own (β := Unit) _ _ (fun _ => _) () A B row h3.1 hg (fun r e => (hr r e).2), boxed_own (β := Unit) _ _ (fun _ => _) () A B row h3.2 hg (fun r e => (hr r e).2)⟩, Kx.own (β := Unit) _ _ _ () A B row h4 hg hr⟩)
          ⟨⟨List.nil_prefix, hxi, hxr⟩, Kx.refl _ _ _⟩
          (fun x => { tmps := #[.string s, .string N, .int .i64 st, undef, undef, .pointer (some ⟨w.heap.size, 0, none⟩), .pointer (some ⟨w.heap.size + 1, 0, none⟩), .pointer (some ⟨bw, 0, none⟩), .pointer (some ⟨bo2, 0, none⟩), .pointer (some ⟨bi, 0, none⟩), encStr x.1.1, encStr x.1.2, undef, undef, undef, undef, .bool true, .bool false, .string s, .slice ao L.length cap, .int .i64 1, .bool true, .int .i64 0, .int .i64 1, .string s, .func (.func 24) #[] #[.pointer (some ⟨bi + 1, 0, none⟩)], encStr x.1.1, encStr x.1.2, undef, undef, undef, undef, undef, undef, undef, undef, undef, undef, undef, undef, undef, undef, undef, undef, undef, undef, undef, undef, undef, undef, undef, undef, undef, undef, undef, undef, undef, undef, undef, .int .i64 L.length, .slice ao L.length cap, .int .i64 L.length, .bool false, .bool false, undef, undef, undef, undef, undef, undef, undef, .bool false, .int .i64 0, undef, undef, undef, undef, undef, undef, undef, undef, undef, undef, undef, undef, undef, undef, undef, undef, undef, undef, undef, undef], defers := [] }) ?assign ?body ?done ?stop
        case assign =>
          intro l x W K hK
          simp only [encF]
          gi_wp2
          exact hK
        case body =>
          rintro l pre x W ⟨⟨hp, hi, hr⟩, hK⟩ _
          have e1 : ∀ l, encStr l = .string (mkB l) := fun _ => rfl
          have cst := (hK.box hxs (by omega) (by omega)).cell
          have cwt := (hK.box hxw (by omega) (by omega)).cell
          have cro := (hK.box hxo (by omega) (by omega)).cell
          have ci := hi.cell
          have fi := hi.frozen
          have cr := hr.cell
          have fr := hr.frozen
          have hxv : vals (pre ++ [x]) = vals pre ++ [x.1] := by rw [vals, List.map_append]; rfl
          have hvl : (vals pre).length = pre.length := by rw [vals, List.length_map]
          have hpl : pre.length ≤ L.length := by have := hp.length_le; omega
          simp only [e1]
          by_cases hlt : pre.length < L.length
          · obtain ⟨g, rfl, hg1, hg2, hc1, hc2⟩ := hxc pre.length hlt
            replace hc1 := hK.cell hc1 (by omega) (by omega)
            replace hc2 := hK.cell hc2 (by omega) (by omega)
            have hpre : vals pre = L.take pre.length := by rw [← hvl]; exact List.prefix_iff_eq_take.1 hp
            have hnx : vals (pre ++ [x]) <+: L ↔ x.1 = L[pre.length] := by
              rw [hxv, hpre]
              constructor
              · intro h
                have := List.prefix_iff_eq_take.1 h
                rw [List.length_append, List.length_take, Nat.min_eq_left hpl] at this
                rw [show pre.length + [x.1].length = pre.length + 1 from rfl, List.take_succ_eq_append_getElem hlt] at this
                have := List.append_cancel_left this
                simpa using this
              · intro h
                rw [h, ← List.take_succ_eq_append_getElem hlt]; exact List.take_prefix _ _
            have hq1 : ((mkB L[pre.length].1).toList == (mkB x.1.1).toList) = decide (L[pre.length].1 = x.1.1) := by
              by_cases h : L[pre.length].1 = x.1.1
              · rw [h, decide_eq_true rfl, beq_iff_eq]
              · rw [decide_eq_false h]; exact ne_up h
            have hq2 : ((mkB L[pre.length].2).toList == (mkB x.1.2).toList) = decide (L[pre.length].2 = x.1.2) := by
              by_cases h : L[pre.length].2 = x.1.2
              · rw [h, decide_eq_true rfl, beq_iff_eq]
              · rw [decide_eq_false h]; exact ne_up h
            generalize mkB L[pre.length].1 = Y1 at hc1 hq1
            generalize mkB L[pre.length].2 = Y2 at hc2 hq2
            generalize mkB x.1.1 = X1 at hq1 ⊢
            generalize mkB x.1.2 = X2 at hq2 ⊢
            have hpl2 : (pre ++ [x]).length = pre.length + 1 := by simp
            replace hxv := Lib.hid hxv
            replace hpre := Lib.hid hpre
            replace hvl := Lib.hid hvl
            replace hnx := Lib.hid hnx
            replace hpl2 := Lib.hid hpl2
            by_cases h1 : L[pre.length].1 = x.1.1
            · rw [decide_eq_true h1] at hq1
              by_cases h2 : L[pre.length].2 = x.1.2
              · rw [decide_eq_true h2] at hq2
                have hpn : Hid (vals (pre ++ [x]) <+: L) := Lib.hid (hnx.out.2 (Prod.ext h1.symm h2.symm))
                replace h1 := Lib.hid h1
                replace h2 := Lib.hid h2
                have hsi := hi.set (.int .i64 ((pre.length : Int) + 1))
                have k1 := hsi.cell
                have k2 := ((hK.box hxo (by omega) (by omega)).other (B' := bi) (by omega) (.int .i64 ((pre.length : Int) + 1))).cell
                have k3 := ((hK.box hxs (by omega) (by omega)).other (B' := bi) (by omega) (.int .i64 ((pre.length : Int) + 1))).cell
                have hsr := hr.other (B' := bi) (by omega) (.int .i64 ((pre.length : Int) + 1))
                have hKs := hK.set (.inl rfl) (.int .i64 ((pre.length : Int) + 1))
                have hkp := (KpC.refl W0.heap.size W).setCell ⟨bi, 0, none⟩ (.int .i64 ((pre.length : Int) + 1)) (by show 1 ≤ bi; omega) (by show bi < _; omega)
                have hkf := keeps_set (KeepsFrom.refl W0.heap.size W) ⟨bi, 0, none⟩ (.int .i64 ((pre.length : Int) + 1))
                have hpi : Hid (((pre ++ [x]).length : Int) = (pre.length : Int) + 1) := Lib.hid (by rw [hpl2.out]; rfl)
                generalize hWs : W.setCell ⟨bi, 0, none⟩ (.int .i64 ((pre.length : Int) + 1)) = Ws at k1 k2 k3 hsi hsr hKs hkp hkf
                rw [← hpi.out] at hsi
                replace hsi := Lib.hid hsi
                gi_wp2
                exact ⟨hkf, hkp, ⟨hpn.out, hsi.out, hsr⟩, hKs⟩
              · rw [decide_eq_false h2] at hq2
                have hpn : Hid (¬ (vals (pre ++ [x]) <+: L)) := Lib.hid (fun h => h2 (by rw [hnx.out.1 h]))
                replace h1 := Lib.hid h1
                replace h2 := Lib.hid h2
                gi_wp2
                exact ⟨keeps_set (KeepsFrom.refl _ _) _ _, .inl ⟨rfl, hpn.out⟩⟩
            · rw [decide_eq_false h1] at hq1
              have hpn : Hid (¬ (vals (pre ++ [x]) <+: L)) := Lib.hid (fun h => h1 (by rw [hnx.out.1 h]))
              replace h1 := Lib.hid h1
              gi_wp2
              exact ⟨keeps_set (KeepsFrom.refl _ _) _ _, .inl ⟨rfl, hpn.out⟩⟩
          · have hpn : Hid (¬ (vals (pre ++ [x]) <+: L)) := Lib.hid (fun h => by
              have := h.length_le
              rw [hxv, List.length_append, hvl] at this
              simp at this; omega)
            have hpe : ((L.length : Int) ≤ (pre.length : Int)) := by omega
            clear hxc
            gi_wp2
            exact ⟨keeps_set (KeepsFrom.refl _ _) _ _, .inl ⟨rfl, hpn.out⟩⟩
        case done =>
          rintro D ys W hD hys ⟨⟨hp, hi, hr⟩, hK⟩ hKd
          exact ⟨.inl rfl, D, hD, rfl, ⟨ys.length, hi, .inl (by rw [← hys, vals, List.length_map])⟩, hr, hK, hKd⟩
        case stop =>
          rintro D c pre W hD hpre h hKd
          rcases h with ⟨_, h⟩ | ⟨rfl, h1, ⟨h2, h3⟩, h4⟩
          · exact absurd hpre h
          · refine wpIn_exit ?_
            exact ⟨.inr rfl, D, hD, rfl, ⟨pre.length, h2, .inr h1⟩, h3, h4, hKd⟩
      · rintro e a' W2 ⟨he, D2, hD2, rfl, ⟨i2, hi, hil⟩, hr, hK, hKd2⟩
        have hgo : ∀ (Q : Exit → Act → World → Prop) (A : Act), Exit.inBlock 2 Q .normal A W2 → Exit.inBlock 2 Q e A W2 := fun Q A h => by
          rcases he with rfl | rfl
          · exact h
          · exact h
        refine hgo _ _ ?_
        clear hgo he
        have hst3 := hK.box hxs (by omega) (by omega)
        have hwt3 := hK.box hxw (by omega) (by omega)
        have hro3 := hK.box hxo (by omega) (by omega)
        have hB3 := hK.below hxB (by omega) (by omega)
        have hzW := hK.2.2.2.1
        have hDW : D2 < W2.heap.size := (Array.getElem?_eq_some_iff.1 hKd2).1
        have hrc3 : ∀ j, (h : j < L.length) → ∃ g, ao = some ⟨g, 0, none⟩ ∧ w.heap.size + 1 < g ∧ g < bw ∧ W2.cell? ⟨g, j * 2, none⟩ = some (.string (mkB L[j].1)) ∧ W2.cell? ⟨g, j * 2 + 1, none⟩ = some (.string (mkB L[j].2)) := fun j h => by
          obtain ⟨g, rfl, h1, h2, h3, h4⟩ := hxc j h
          exact ⟨g, rfl, h1, h2, hK.cell h3 (by omega) (by omega), hK.cell h4 (by omega) (by omega)⟩
        have ci := hi.cell
        have cst := hst3.cell
        have cwt := hwt3.cell
        have cro := hro3.cell
        have hKd1 := (hK.2.2.2.2 D1 (by omega) (by omega) (by omega)).trans hxd
        clear hK hxi hxm hxs hxr hxw hxo hxbb hxB hxc hst
        have hiL : i2 = L.length := by omega
        subst hiL
        have hq : ((L.length : Int) != (L.length : Int)) = false := by simp
        have hD1W : D1 < W2.heap.size := (Array.getElem?_eq_some_iff.1 hKd1).1
        have hD12 : D1 < D2 := by omega
        have hD1w : w.heap.size + 1 < D1 := hD1g
        have hbd := (Below.refl _ W2).alloc (Nat.le_refl _) (.cells #[.int .i64 2] 3)
        have hB4 := hB3.alloc hB3.size (.cells #[.int .i64 2] 3)
        have hrt4 := hr.alloc (.cells #[.int .i64 2] 3)
        have hKd3 := (hbd.block D1 hD1W).trans hKd1
        have hKd4 := (hbd.block D2 hDW).trans hKd2
        have hf1' := hf1.out _ hB4
        unfold FieldRet at hf1'
        have hf2' := hf2.out
        unfold FieldRet at hf2'
        obtain ⟨Fv, hFv⟩ : ∃ Fv, fieldVal s.data.toList N.data.toList = Fv := ⟨_, rfl⟩
        rw [hFv] at hf1' hf2'
        replace hf1' := Lib.hid hf1'
        replace hf2' := Lib.hid hf2'
        have cn := (Boxed.new W2 3 (.int .i64 2)).cell
        clear hil hrc3 hbd hFv hKd1 hKd2 hB3 hr hi
        gi_wp2
        rw [roundsIn_succ]
        gi_wp2
        refine ⟨trivial, (callsIn_wide.2 hf1'.out).mono ?_⟩
        rintro e Wf ⟨u1, rfl, hu1, hbf⟩
        have hB5 := hB4.trans (hbf.out.mono hB4.size)
        have hrt5 := boxed_below hrt4 hbf.out
        have hKd5 := (hbf.out.block D1 (Array.getElem?_eq_some_iff.1 hKd3).1).trans hKd3
        have hKd6 := (hbf.out.block D2 (Array.getElem?_eq_some_iff.1 hKd4).1).trans hKd4
        clear hB4 hrt4 hKd3 hKd4 hf1' hbf cn
        gi_wp2
        refine ⟨trivial, (callsIn_wide.2 (hf2'.out Wf)).mono ?_⟩
        rintro e Wg ⟨u2, rfl, hu2, hbg⟩
        have hB6 := hB5.trans (hbg.out.mono hB5.size)
        have hrt6 := boxed_below hrt5 hbg.out
        have hKd7 := (hbg.out.block D1 (Array.getElem?_eq_some_iff.1 hKd5).1).trans hKd5
        have hKd8 := (hbg.out.block D2 (Array.getElem?_eq_some_iff.1 hKd6).1).trans hKd6
        have hqq := eq_both hu1.out hu2.out
        clear hB5 hrt5 hKd5 hKd6 hf2' hbg hu1 hu2
        generalize Fv.isSome = Bv
        have cr := hrt6.cell
        have fr := hrt6.frozen
        gi_wp2
        have hrt7 := hrt6.set (.bool true)
        have hB7 := hB6.setCell (p := ⟨w.heap.size + 1, 0, none⟩) (by simp) (.bool true)
        have hK71 := (KeepsOthers.setCell Wg ⟨w.heap.size + 1, 0, none⟩ (.bool true)).same D1 _ hKd7 rfl
        have hK72 := (KeepsOthers.setCell Wg ⟨w.heap.size + 1, 0, none⟩ (.bool true)).same D2 _ hKd8 rfl
        generalize Wg.setCell ⟨w.heap.size + 1, 0, none⟩ (.bool true) = Wh at hrt7 hB7 hK71 hK72 ⊢
        refine ⟨by simp, .inl ⟨_, _, rfl, run_takeDeferred hK72, ?_⟩⟩
        have hK81 : (Wh.putObj D2 (.deferred none)).heap[D1]? = some (.deferred (some [])) := (World.putObj_heap_other (by omega)).trans hK71
        have hrt8 := boxed_own (β := Unit) (w.heap.size + 1) 4 (fun _ => .bool true) () _ _ _ hrt7 (grownBy_putObj' _ D2 (.deferred none)) (fun r e => by cases e; exact ⟨_, hK72, rfl⟩)
        have hB8 := hB7.trans (belowK_b (w := w) (Nat.le_refl _) _ D2 _ (.deferred none) (by omega) hK72 rfl rfl)
        refine ⟨by simp, .inl ⟨_, _, rfl, run_takeDeferred hK81, ?_⟩⟩
        have hrt9 := boxed_own (β := Unit) (w.heap.size + 1) 4 (fun _ => .bool true) () _ _ _ hrt8 (grownBy_putObj' _ D1 (.deferred none)) (fun r e => by cases e; exact ⟨_, hK81, rfl⟩)
        have hB9 := hB8.trans (belowK_b (w := w) (Nat.le_refl _) _ D1 _ (.deferred none) (by omega) hK81 rfl rfl)
        have c9 := hrt9.cell
        refine ⟨_, ?_, rfl, hB9⟩
        simp [results, Tryd.f3, go_sem, c9]
    · have hq : ((i : Int) != (L.length : Int)) = true := bne_iff_ne.2 (by omega)
      have hsi : ((i : Int) != st) = false := by rw [(hil.resolve_left hiL).2]; simp
      clear hil
      replace hiL := Lib.hid hiL
      gi_wp2
      have hD1g : w.heap.size + 1 < D1 := by omega
      clear ci cst cwt cro hi hzW hD1 hxz hbo
      have hbw := hwt3.lt
      have hbd := (Below.refl _ W).alloc (Nat.le_refl _) (.cells #[.int .i64 1] 3)
      replace hB3 := hB3.alloc hB3.size (.cells #[.int .i64 1] 3)
      replace hst3 := hst3.alloc (.cells #[.int .i64 1] 3)
      have hrt3 := hr.alloc (.cells #[.int .i64 1] 3)
      replace hwt3 := hwt3.alloc (.cells #[.int .i64 1] 3)
      replace hro3 := Boxed.new W 3 (.int .i64 1)
      replace hKd1 := (hbd.block D1 hDW).trans hKd1
      have hrc4 : ∀ j, (h : j < L.length) → ∃ g, ao = some ⟨g, 0, none⟩ ∧ w.heap.size + 1 < g ∧ g < bw ∧ (W.alloc (.cells #[.int .i64 1] 3)).cell? ⟨g, j * 2, none⟩ = some (.string (mkB L[j].1)) ∧ (W.alloc (.cells #[.int .i64 1] 3)).cell? ⟨g, j * 2 + 1, none⟩ = some (.string (mkB L[j].2)) := fun j h => by
        obtain ⟨g, rfl, h1, h2, h3, h4⟩ := hrc3 j h
        exact ⟨g, rfl, h1, h2, (hbd.cell (p := ⟨g, j * 2, none⟩) (by show g < W.heap.size; omega)).trans h3, (hbd.cell (p := ⟨g, j * 2 + 1, none⟩) (by show g < W.heap.size; omega)).trans h4⟩
      replace hrc3 := hrc4
      clear hrc4 hbd hr
      have hDl : D1 < (W.alloc (.cells #[.int .i64 1] 3)).heap.size := by simp; omega
      generalize W.alloc (.cells #[.int .i64 1] 3) = Wd2 at hB3 hst3 hrt3 hwt3 hro3 hKd1 hrc3 hDl ⊢
      generalize W.heap.size = bo2 at hbw hro3 hDW ⊢
      rw [roundsIn_succ]
      have cro := hro3.cell
      gi_wp2
      refine ⟨trivial, (callsIn_wide.2 (fields_in _ _)).mono ?_⟩
      rintro e We ⟨rfl, rfl⟩
      clear cro
      gi_wp2
      have hxi := (Boxed.new Wd2 3 (.int .i64 0)).alloc (.cells #[.string s] 9)
      have hxm := Boxed.new (Wd2.alloc (.cells #[.int .i64 0] 3)) 9 (.string s)
      rw [World.size_alloc] at hxm
      have hxs := (hst3.alloc (.cells #[.int .i64 0] 3)).alloc (.cells #[.string s] 9)
      have hxr := (hrt3.alloc (.cells #[.int .i64 0] 3)).alloc (.cells #[.string s] 9)
      have hxw := (hwt3.alloc (.cells #[.int .i64 0] 3)).alloc (.cells #[.string s] 9)
      have hxo := (hro3.alloc (.cells #[.int .i64 0] 3)).alloc (.cells #[.string s] 9)
      have hxbb := ((Below.refl _ Wd2).alloc (Nat.le_refl _) (.cells #[.int .i64 0] 3)).alloc (by simp) (.cells #[.string s] 9)
      have hxB := (hB3.alloc hB3.size (.cells #[.int .i64 0] 3)).alloc (by have := hB3.size; simp; omega) (.cells #[.string s] 9)
      have hxz : ((Wd2.alloc (.cells #[.int .i64 0] 3)).alloc (.cells #[.string s] 9)).heap.size = Wd2.heap.size + 2 := by simp
      have hxd := (hxbb.block D1 hDl).trans hKd1
      have hbo := hro3.lt
      generalize (Wd2.alloc (.cells #[.int .i64 0] 3)).alloc (.cells #[.string s] 9) = W0 at hxi hxm hxs hxr hxw hxo hxbb hxB hxz hxd ⊢
      generalize Wd2.heap.size = bi at hxi hxm hxz hbo hxbb hDl ⊢
      clear hB3 hst3 hrt3 hwt3 hro3
      have hxc : ∀ j, (h : j < L.length) → ∃ g, ao = some ⟨g, 0, none⟩ ∧ w.heap.size + 1 < g ∧ g < bw ∧ W0.cell? ⟨g, j * 2, none⟩ = some (.string (mkB L[j].1)) ∧ W0.cell? ⟨g, j * 2 + 1, none⟩ = some (.string (mkB L[j].2)) := fun j h => by
        obtain ⟨g, rfl, h1, h2, h3, h4⟩ := hrc3 j h
        exact ⟨g, rfl, h1, h2, (hxbb.cell (p := ⟨g, j * 2, none⟩) (by show g < bi; omega)).trans h3, (hxbb.cell (p := ⟨g, j * 2 + 1, none⟩) (by show g < bi; omega)).trans h4⟩
      clear hrc3
      have hst := fields_stops 2 (by decide) W0.heap.size (bi + 1) s (by omega) m W0 (Nat.le_refl _) (by omega) (by omega) (hmb.out W0 hxB) hxm.cell
      rw [hL] at hst
      refine wpIn_mono (Q := fun e a' W => (e = .normal ∨ e = .exit 2) ∧ ∃ D, W0.heap.size ≤ D ∧ a' = { tmps := #[.string s, .string N, .int .i64 st, undef, undef, .pointer (some ⟨w.heap.size, 0, none⟩), .pointer (some ⟨w.heap.size + 1, 0, none⟩), .pointer (some ⟨bw, 0, none⟩), .pointer (some ⟨bo2, 0, none⟩), .pointer (some ⟨bi, 0, none⟩), undef, undef, undef, undef, undef, undef, .bool true, .bool false, .string s, .slice ao L.length cap, .int .i64 1, .bool true, .int .i64 0, .int .i64 1, .string s, .func (.func 24) #[] #[.pointer (some ⟨bi + 1, 0, none⟩)], undef, undef, undef, undef, undef, undef, undef, undef, undef, undef, undef, undef, undef, undef, undef, undef, undef, undef, undef, undef, undef, undef, undef, undef, undef, undef, undef, undef, undef, undef, undef, undef, undef, .int .i64 i, .slice ao L.length cap, .int .i64 L.length, .bool true, .bool true, .int .i64 0, .bool false, .bool false, .int .i64 i, .int .i64 st, .bool false, .bool false, .bool false, .int .i64 0, undef, undef, undef, undef, undef, undef, undef, undef, undef, undef, undef, undef, undef, undef, undef, undef, undef, undef, undef, undef], defers := { target := .collected D, args := #[] } :: [{ target := .collected D1, args := #[] }] } ∧ (∃ i : Nat, Boxed W bi 3 (.int .i64 i) ∧ (i = L.length ∨ (1 = 0 ∧ (i : Int) = st))) ∧ Boxed W (w.heap.size + 1) 4 (.bool false) ∧ Kx W0 bi (w.heap.size + 1) W ∧ W.heap[D]? = some (.deferred (some []))) ?_ ?_
      · refine wpIn_rangeFunc_ownG rfl (by decide) (gf := 24) (lb := #[.pointer (some ⟨bi + 1, 0, none⟩)]) rfl trivial (enters_of Tryd.func24 (by kernel_rfl) rfl)
          hst (fun h k => h.trans k) (fun W l o o' => KpC.put (by omega) W l o o') (Below.refl _ _) (fun _ => rfl)
          (fun pre W => (vals pre <+: L ∧ Boxed W bi 3 (.int .i64 pre.length) ∧ Boxed W (w.heap.size + 1) 4 (.bool false)) ∧ Kx W0 bi (w.heap.size + 1) W)
          (fun c pre W => (c = .ret ∧ ¬ (vals pre <+: L)) ∨ (c = .exit 2 ∧ (1 = 0 ∧ (pre.length : Int) = st) ∧ (Boxed W bi 3 (.int .i64 pre.length) ∧ Boxed W (w.heap.size + 1) 4 (.bool false)) ∧ Kx W0 bi (w.heap.size + 1) W))
          (OwnFrom.and (Own.from (fun s A B row hs hg hr => ⟨hs.1, boxed_own (β := Unit) _ _ (fun _ => _) () A B row hs.2.1 hg hr, boxed_own (β := Unit) _ _ (fun _ => _) () A B row hs.2.2 hg hr⟩) _) (Kx.own _ _ _))
          (fun c s A B row hs hg hr => by
            rcases hs with hs | ⟨h1, h2, h3, h4⟩
            · exact .inl hs
            · exact .inr ⟨h1, h2, ⟨boxed_own (β := Unit) _ _ (fun _ => _) () A B row h3.1 hg (fun r e => (hr r e).2), boxed_own (β := Unit) _ _ (fun _ => _) () A B row h3.2 hg (fun r e => (hr r e).2)⟩, Kx.own (β := Unit) _ _ _ () A B row h4 hg hr⟩)
          ⟨⟨List.nil_prefix, hxi, hxr⟩, Kx.refl _ _ _⟩
          (fun x => { tmps := #[.string s, .string N, .int .i64 st, undef, undef, .pointer (some ⟨w.heap.size, 0, none⟩), .pointer (some ⟨w.heap.size + 1, 0, none⟩), .pointer (some ⟨bw, 0, none⟩), .pointer (some ⟨bo2, 0, none⟩), .pointer (some ⟨bi, 0, none⟩), encStr x.1.1, encStr x.1.2, undef, undef, undef, undef, .bool true, .bool false, .string s, .slice ao L.length cap, .int .i64 1, .bool true, .int .i64 0, .int .i64 1, .string s, .func (.func 24) #[] #[.pointer (some ⟨bi + 1, 0, none⟩)], encStr x.1.1, encStr x.1.2, undef, undef, undef, undef, undef, undef, undef, undef, undef, undef, undef, undef, undef, undef, undef, undef, undef, undef, undef, undef, undef, undef, undef, undef, undef, undef, undef, undef, undef, undef, undef, .int .i64 i, .slice ao L.length cap, .int .i64 L.length, .bool true, .bool true, .int .i64 0, .bool false, .bool false, .int .i64 i, .int .i64 st, .bool false, .bool false, .bool false, .int .i64 0, undef, undef, undef, undef, undef, undef, undef, undef, undef, undef, undef, undef, undef, undef, undef, undef, undef, undef, undef, undef], defers := [] }) ?assign ?body ?done ?stop
        case assign =>
          intro l x W K hK
          simp only [encF]
          gi_wp2
          exact hK
        case body =>
          rintro l pre x W ⟨⟨hp, hi, hr⟩, hK⟩ _
          have e1 : ∀ l, encStr l = .string (mkB l) := fun _ => rfl
          have cst := (hK.box hxs (by omega) (by omega)).cell
          have cwt := (hK.box hxw (by omega) (by omega)).cell
          have cro := (hK.box hxo (by omega) (by omega)).cell
          have ci := hi.cell
          have fi := hi.frozen
          have cr := hr.cell
          have fr := hr.frozen
          have hxv : vals (pre ++ [x]) = vals pre ++ [x.1] := by rw [vals, List.map_append]; rfl
          have hvl : (vals pre).length = pre.length := by rw [vals, List.length_map]
          have hpl : pre.length ≤ L.length := by have := hp.length_le; omega
          simp only [e1]
          by_cases hlt : pre.length < L.length
          · obtain ⟨g, rfl, hg1, hg2, hc1, hc2⟩ := hxc pre.length hlt
            replace hc1 := hK.cell hc1 (by omega) (by omega)
            replace hc2 := hK.cell hc2 (by omega) (by omega)
            have hpre : vals pre = L.take pre.length := by rw [← hvl]; exact List.prefix_iff_eq_take.1 hp
            have hnx : vals (pre ++ [x]) <+: L ↔ x.1 = L[pre.length] := by
              rw [hxv, hpre]
              constructor
              · intro h
                have := List.prefix_iff_eq_take.1 h
                rw [List.length_append, List.length_take, Nat.min_eq_left hpl] at this
                rw [show pre.length + [x.1].length = pre.length + 1 from rfl, List.take_succ_eq_append_getElem hlt] at this
                have := List.append_cancel_left this
                simpa using this
              · intro h
                rw [h, ← List.take_succ_eq_append_getElem hlt]; exact List.take_prefix _ _
            have hq1 : ((mkB L[pre.length].1).toList == (mkB x.1.1).toList) = decide (L[pre.length].1 = x.1.1) := by
              by_cases h : L[pre.length].1 = x.1.1
              · rw [h, decide_eq_true rfl, beq_iff_eq]
              · rw [decide_eq_false h]; exact ne_up h
            have hq2 : ((mkB L[pre.length].2).toList == (mkB x.1.2).toList) = decide (L[pre.length].2 = x.1.2) := by
              by_cases h : L[pre.length].2 = x.1.2
              · rw [h, decide_eq_true rfl, beq_iff_eq]
              · rw [decide_eq_false h]; exact ne_up h
            generalize mkB L[pre.length].1 = Y1 at hc1 hq1
            generalize mkB L[pre.length].2 = Y2 at hc2 hq2
            generalize mkB x.1.1 = X1 at hq1 ⊢
            generalize mkB x.1.2 = X2 at hq2 ⊢
            have hpl2 : (pre ++ [x]).length = pre.length + 1 := by simp
            replace hxv := Lib.hid hxv
            replace hpre := Lib.hid hpre
            replace hvl := Lib.hid hvl
            replace hnx := Lib.hid hnx
            replace hpl2 := Lib.hid hpl2
            by_cases h1 : L[pre.length].1 = x.1.1
            · rw [decide_eq_true h1] at hq1
              by_cases h2 : L[pre.length].2 = x.1.2
              · rw [decide_eq_true h2] at hq2
                have hpn : Hid (vals (pre ++ [x]) <+: L) := Lib.hid (hnx.out.2 (Prod.ext h1.symm h2.symm))
                replace h1 := Lib.hid h1
                replace h2 := Lib.hid h2
                have hsi := hi.set (.int .i64 ((pre.length : Int) + 1))
                have k1 := hsi.cell
                have k2 := ((hK.box hxo (by omega) (by omega)).other (B' := bi) (by omega) (.int .i64 ((pre.length : Int) + 1))).cell
                have k3 := ((hK.box hxs (by omega) (by omega)).other (B' := bi) (by omega) (.int .i64 ((pre.length : Int) + 1))).cell
                have hsr := hr.other (B' := bi) (by omega) (.int .i64 ((pre.length : Int) + 1))
                have hKs := hK.set (.inl rfl) (.int .i64 ((pre.length : Int) + 1))
                have hkp := (KpC.refl W0.heap.size W).setCell ⟨bi, 0, none⟩ (.int .i64 ((pre.length : Int) + 1)) (by show 1 ≤ bi; omega) (by show bi < _; omega)
                have hkf := keeps_set (KeepsFrom.refl W0.heap.size W) ⟨bi, 0, none⟩ (.int .i64 ((pre.length : Int) + 1))
                have hpi : Hid (((pre ++ [x]).length : Int) = (pre.length : Int) + 1) := Lib.hid (by rw [hpl2.out]; rfl)
                generalize hWs : W.setCell ⟨bi, 0, none⟩ (.int .i64 ((pre.length : Int) + 1)) = Ws at k1 k2 k3 hsi hsr hKs hkp hkf
                rw [← hpi.out] at hsi
                replace hsi := Lib.hid hsi
                gi_wp2
                exact ⟨hkf, hkp, ⟨hpn.out, hsi.out, hsr⟩, hKs⟩
              · rw [decide_eq_false h2] at hq2
                have hpn : Hid (¬ (vals (pre ++ [x]) <+: L)) := Lib.hid (fun h => h2 (by rw [hnx.out.1 h]))
                replace h1 := Lib.hid h1
                replace h2 := Lib.hid h2
                gi_wp2
                exact ⟨keeps_set (KeepsFrom.refl _ _) _ _, .inl ⟨rfl, hpn.out⟩⟩
            · rw [decide_eq_false h1] at hq1
              have hpn : Hid (¬ (vals (pre ++ [x]) <+: L)) := Lib.hid (fun h => h1 (by rw [hnx.out.1 h]))
              replace h1 := Lib.hid h1
              gi_wp2
              exact ⟨keeps_set (KeepsFrom.refl _ _) _ _, .inl ⟨rfl, hpn.out⟩⟩
          · have hpn : Hid (¬ (vals (pre ++ [x]) <+: L)) := Lib.hid (fun h => by
              have := h.length_le
              rw [hxv, List.length_append, hvl] at this
              simp at this; omega)
            have hpe : ((L.length : Int) ≤ (pre.length : Int)) := by omega
            clear hxc
            gi_wp2
            exact ⟨keeps_set (KeepsFrom.refl _ _) _ _, .inl ⟨rfl, hpn.out⟩⟩
        case done =>
          rintro D ys W hD hys ⟨⟨hp, hi, hr⟩, hK⟩ hKd
          exact ⟨.inl rfl, D, hD, rfl, ⟨ys.length, hi, .inl (by rw [← hys, vals, List.length_map])⟩, hr, hK, hKd⟩
        case stop =>
          rintro D c pre W hD hpre h hKd
          rcases h with ⟨_, h⟩ | ⟨rfl, h1, ⟨h2, h3⟩, h4⟩
          · exact absurd hpre h
          · refine wpIn_exit ?_
            exact ⟨.inr rfl, D, hD, rfl, ⟨pre.length, h2, .inr h1⟩, h3, h4, hKd⟩
      · rintro e a' W2 ⟨he, D2, hD2, rfl, ⟨i2, hi, hil⟩, hr, hK, hKd2⟩
        have hgo : ∀ (Q : Exit → Act → World → Prop) (A : Act), Exit.inBlock 2 Q .normal A W2 → Exit.inBlock 2 Q e A W2 := fun Q A h => by
          rcases he with rfl | rfl
          · exact h
          · exact h
        refine hgo _ _ ?_
        clear hgo he
        have hst3 := hK.box hxs (by omega) (by omega)
        have hwt3 := hK.box hxw (by omega) (by omega)
        have hro3 := hK.box hxo (by omega) (by omega)
        have hB3 := hK.below hxB (by omega) (by omega)
        have hzW := hK.2.2.2.1
        have hDW : D2 < W2.heap.size := (Array.getElem?_eq_some_iff.1 hKd2).1
        have hrc3 : ∀ j, (h : j < L.length) → ∃ g, ao = some ⟨g, 0, none⟩ ∧ w.heap.size + 1 < g ∧ g < bw ∧ W2.cell? ⟨g, j * 2, none⟩ = some (.string (mkB L[j].1)) ∧ W2.cell? ⟨g, j * 2 + 1, none⟩ = some (.string (mkB L[j].2)) := fun j h => by
          obtain ⟨g, rfl, h1, h2, h3, h4⟩ := hxc j h
          exact ⟨g, rfl, h1, h2, hK.cell h3 (by omega) (by omega), hK.cell h4 (by omega) (by omega)⟩
        have ci := hi.cell
        have cst := hst3.cell
        have cwt := hwt3.cell
        have cro := hro3.cell
        have hKd1 := (hK.2.2.2.2 D1 (by omega) (by omega) (by omega)).trans hxd
        clear hK hxi hxm hxs hxr hxw hxo hxbb hxB hxc hst
        have hiL : i2 = L.length := by omega
        subst hiL
        have hq : ((L.length : Int) != (L.length : Int)) = false := by simp
        have hD1W : D1 < W2.heap.size := (Array.getElem?_eq_some_iff.1 hKd1).1
        have hD12 : D1 < D2 := by omega
        have hD1w : w.heap.size + 1 < D1 := hD1g
        have hbd := (Below.refl _ W2).alloc (Nat.le_refl _) (.cells #[.int .i64 2] 3)
        have hB4 := hB3.alloc hB3.size (.cells #[.int .i64 2] 3)
        have hrt4 := hr.alloc (.cells #[.int .i64 2] 3)
        have hKd3 := (hbd.block D1 hD1W).trans hKd1
        have hKd4 := (hbd.block D2 hDW).trans hKd2
        have hf1' := hf1.out _ hB4
        unfold FieldRet at hf1'
        have hf2' := hf2.out
        unfold FieldRet at hf2'
        obtain ⟨Fv, hFv⟩ : ∃ Fv, fieldVal s.data.toList N.data.toList = Fv := ⟨_, rfl⟩
        rw [hFv] at hf1' hf2'
        replace hf1' := Lib.hid hf1'
        replace hf2' := Lib.hid hf2'
        have cn := (Boxed.new W2 3 (.int .i64 2)).cell
        clear hil hrc3 hbd hFv hKd1 hKd2 hB3 hr hi
        gi_wp2
        rw [roundsIn_succ]
        gi_wp2
        refine ⟨trivial, (callsIn_wide.2 hf1'.out).mono ?_⟩
        rintro e Wf ⟨u1, rfl, hu1, hbf⟩
        have hB5 := hB4.trans (hbf.out.mono hB4.size)
        have hrt5 := boxed_below hrt4 hbf.out
        have hKd5 := (hbf.out.block D1 (Array.getElem?_eq_some_iff.1 hKd3).1).trans hKd3
        have hKd6 := (hbf.out.block D2 (Array.getElem?_eq_some_iff.1 hKd4).1).trans hKd4
        clear hB4 hrt4 hKd3 hKd4 hf1' hbf cn
        gi_wp2
        refine ⟨trivial, (callsIn_wide.2 (hf2'.out Wf)).mono ?_⟩
        rintro e Wg ⟨u2, rfl, hu2, hbg⟩
        have hB6 := hB5.trans (hbg.out.mono hB5.size)
        have hrt6 := boxed_below hrt5 hbg.out
        have hKd7 := (hbg.out.block D1 (Array.getElem?_eq_some_iff.1 hKd5).1).trans hKd5
        have hKd8 := (hbg.out.block D2 (Array.getElem?_eq_some_iff.1 hKd6).1).trans hKd6
        have hqq := eq_both hu1.out hu2.out
        clear hB5 hrt5 hKd5 hKd6 hf2' hbg hu1 hu2
        generalize Fv.isSome = Bv
        have cr := hrt6.cell
        have fr := hrt6.frozen
        gi_wp2
        have hrt7 := hrt6.set (.bool true)
        have hB7 := hB6.setCell (p := ⟨w.heap.size + 1, 0, none⟩) (by simp) (.bool true)
        have hK71 := (KeepsOthers.setCell Wg ⟨w.heap.size + 1, 0, none⟩ (.bool true)).same D1 _ hKd7 rfl
        have hK72 := (KeepsOthers.setCell Wg ⟨w.heap.size + 1, 0, none⟩ (.bool true)).same D2 _ hKd8 rfl
        generalize Wg.setCell ⟨w.heap.size + 1, 0, none⟩ (.bool true) = Wh at hrt7 hB7 hK71 hK72 ⊢
        refine ⟨by simp, .inl ⟨_, _, rfl, run_takeDeferred hK72, ?_⟩⟩
        have hK81 : (Wh.putObj D2 (.deferred none)).heap[D1]? = some (.deferred (some [])) := (World.putObj_heap_other (by omega)).trans hK71
        have hrt8 := boxed_own (β := Unit) (w.heap.size + 1) 4 (fun _ => .bool true) () _ _ _ hrt7 (grownBy_putObj' _ D2 (.deferred none)) (fun r e => by cases e; exact ⟨_, hK72, rfl⟩)
        have hB8 := hB7.trans (belowK_b (w := w) (Nat.le_refl _) _ D2 _ (.deferred none) (by omega) hK72 rfl rfl)
        refine ⟨by simp, .inl ⟨_, _, rfl, run_takeDeferred hK81, ?_⟩⟩
        have hrt9 := boxed_own (β := Unit) (w.heap.size + 1) 4 (fun _ => .bool true) () _ _ _ hrt8 (grownBy_putObj' _ D1 (.deferred none)) (fun r e => by cases e; exact ⟨_, hK81, rfl⟩)
        have hB9 := hB8.trans (belowK_b (w := w) (Nat.le_refl _) _ D1 _ (.deferred none) (by omega) hK81 rfl rfl)
        have c9 := hrt9.cell
        refine ⟨_, ?_, rfl, hB9⟩
        simp [results, Tryd.f3, go_sem, c9]
theorem partFields_card (s N : ByteArray) (st : Int) (hs : s.size ≤ 1048576) (hN : N.size ≤ 1048576) (_ : (Lit.int .i64 st).wf = true) (w : World) (hm : ∃ m, w.cell? ⟨0, 0, none⟩ = some (.int .i64 m)) :
    Calls Tryd.prog 3 #[.string s, .string N, .int .i64 st] w fun e w' => e = .returned (.bool true) ∧ Below w.heap.size w w' := partFields_any s N st hs hN w hm
end Go.Proofs.YtgijkpbeokclkaaDoor
