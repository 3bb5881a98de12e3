/- The document's net: Send: walked. -/
import Derived.Test.YtjopbglimjhefaaNfD
namespace Go.Proofs.Ytjopbglimjhefaa
set_option linter.unusedSimpArgs false
open Go.RowKit Go.Maps Go.WideMaps
attribute [local go_sem ↓] Go.wp_at_zero Go.wp_at_succ

def SendRR (W : World) (b : Nat) (v : Value) (r : Rs) (x y : Int) (t : ByteArray) (d : Int) (e : Ending) (w' : World) : Prop :=
  e = .returned (.tuple #[.int .i64 (sendR r x y t d).1, .int .i64 (sendR r x y t d).2.1]) ∧ ∃ v', Hid (RefAt w' b v' (sendR r x y t d).2.2) ∧ Hid (RSame W b w' ∧ Later W v v')
theorem heap_alloc_at (w : World) (o : Obj) (n : Nat) (h : w.heap.size = n) : (w.alloc o).heap[n]? = some o := by subst h; exact heap_alloc_new w o
theorem own_empty_at (W : World) (n : Nat) (h : W.heap.size = n) : OwnP (W.alloc (.cells #[] 30)) (.slice (some ⟨n, 0, none⟩) 0 0) [] := by subst h; exact own_empty W
def sendP (r : Rs) (x y : Int) (t : ByteArray) (d : Int) : Pk := ⟨(r.last : Int) + 1, x, y, t, (r.now : Int) + d⟩
theorem rd_block {w : World} {X : Nat} {p : Pk} (h : w.heap[X]? = some (.cells (pkArr p) 30 (0, 0))) : Rd w (.slice (some ⟨X, 0, none⟩) 1 1) [p].length (rowCells [p]) :=
  ⟨_, _, rfl, .inr ⟨X, 0, rfl, (Array.getElem?_eq_some_iff.1 h).1, Nat.le_refl _, fun i u hu => by
    rw [Nat.zero_add, cell_at h]
    have e : rowCells [p] = (pkArr p).toList := by simp [rowCells, pkCells, pkArr]
    rw [e] at hu
    simpa using hu⟩⟩
theorem send_fin {W w2 w' : World} {b : Nat} {v v' : Value} {r : Rs} {p : Pk} (hA : RefAt w2 b v r) (hS : RSame W b w2) (hb : Below w2.heap.size w2 w') (hf : ∀ g, v'.ownBlock = some g → w2.heap.size ≤ g) (ho : OwnP w' v' (r.l ++ [p])) :
    Hid (RefAt (w'.setCell ⟨b, 0, none⟩ v') b v' ⟨r.l ++ [p], r.now, r.last, r.cs⟩) ∧ Hid (RSame W b (w'.setCell ⟨b, 0, none⟩ v') ∧ Later W v v') ∧ w'.cell? ⟨b, 0, none⟩ = some v ∧ w'.cell? ⟨b, 2, none⟩ = some (.int .i64 r.last) ∧ w'.frozen? ⟨b, 0, none⟩ = false := by
  have hlt := hA.lt
  have h1 := hA.below hb
  have hv : v'.ownBlock ≠ some b := fun e => by have := hf b e; omega
  have h2 := h1.setL ho hv
  exact ⟨Lib.hid h2.1, Lib.hid ⟨(hS.trans (RSame.of_below hb b)).trans h2.2, fun g hg => .inr (Nat.le_trans hS.size (hf g hg))⟩, h1.c0, h1.c2, h1.free 0⟩
set_option maxRecDepth 100000 in
set_option maxHeartbeats 4000000 in
theorem refSend_any (b : Nat) (v : Value) (r : Rs) (x y : Int) (t : ByteArray) (d : Int) (hnow : r.now < 1000000) (hlast : r.last < 1000000) (hl : r.l.length ≤ 600) (W : World) (h : RefAt W b v r) :
    Calls Try.prog 27 #[.pointer (some ⟨b, 0, none⟩), .int .i64 x, .int .i64 y, .string t, .int .i64 d] W (SendRR W b v r x y t d) := by
  have hlk := refLink_any x y W
  obtain ⟨ao, cap, hv⟩ := h.own.len
  have hno : ∀ k, sendR r x y t d = (0, k, r) → SendRR W b v r x y t d (.returned (.tuple #[.int .i64 0, .int .i64 k])) W := fun k hk => by
    unfold SendRR
    rw [hk]
    exact ⟨rfl, v, Lib.hid h, Lib.hid ⟨RSame.of_below (Below.refl _ _) b, Later.refl _ _⟩⟩
  have c0 := h.c0
  have c1 := h.c1
  have c2 := h.c2
  have hbl := h.lt
  cases hq : linkB x y
  · have h1 := Lib.hid (hno 1 (by unfold sendR; rw [if_neg]; unfold sendOk; rw [hq]; simp))
    rw [hq] at hlk
    replace hlk := Lib.hid hlk
    clear hno c0 c1 c2 h
    go_enter Try.func27, Try.ntmps27
    go_wp2_with fail
    refine hlk.out.mono ?_
    rintro e w1 ⟨rfl, rfl⟩
    go_wp2_with fail
    go_ret2
    exact h1.out
  · rw [hq] at hlk
    by_cases hd0 : d < 0
    · have h1 := Lib.hid (hno 1 (by unfold sendR; rw [if_neg]; unfold sendOk; simp; omega))
      replace hlk := Lib.hid hlk
      clear hno c0 c1 c2 h
      go_enter Try.func27, Try.ntmps27
      go_wp2_with fail
      refine hlk.out.mono ?_
      rintro e w1 ⟨rfl, rfl⟩
      go_wp2_with fail
      go_ret2
      exact h1.out
    · by_cases hd1 : 100 < d
      · have h1 := Lib.hid (hno 1 (by unfold sendR; rw [if_neg]; unfold sendOk; simp; omega))
        replace hlk := Lib.hid hlk
        clear hno c0 c1 c2 h
        go_enter Try.func27, Try.ntmps27
        go_wp2_with fail
        refine hlk.out.mono ?_
        rintro e w1 ⟨rfl, rfl⟩
        go_wp2_with fail
        go_ret2
        exact h1.out
      · have hs : sendOk x y d = true := by unfold sendOk; rw [hq]; simp; omega
        subst hv
        by_cases hfull : 512 ≤ r.l.length
        · have hf' : (512 : Int) ≤ (r.l.length : Int) := by omega
          have h1 := Lib.hid (hno 7 (by unfold sendR; rw [if_pos hs, if_neg (by omega)]))
          replace hlk := Lib.hid hlk
          clear hno c1 c2 h hq hs
          go_enter Try.func27, Try.ntmps27
          go_wp2_with fail
          refine hlk.out.mono ?_
          rintro e w1 ⟨rfl, rfl⟩
          go_wp2_with fail
          go_ret2
          exact h1.out
        · have hf' : (r.l.length : Int) < 512 := by omega
          have e1 : sendR r x y t d = (((r.last + 1 : Nat) : Int), 0, ⟨r.l ++ [⟨(r.last + 1 : Nat), x, y, t, r.now + d⟩], r.now, r.last + 1, r.cs⟩) := by unfold sendR; rw [if_pos hs, if_pos (by omega)]
          have el : ((r.last + 1 : Nat) : Int) = (r.last : Int) + 1 := by omega
          have hA := h.setLast (r.last + 1)
          have f2 := h.free 2
          unfold SendRR
          rw [e1]
          rw [el] at hA ⊢
          replace hlk := Lib.hid hlk
          replace hA := Lib.hid hA
          have hel := Lib.hid el
          clear hno h hq hs e1 el
          have hw : IntKind.i64.wrap ((r.now : Int) + d) = (r.now : Int) + d := IntWalk.i64_in _ (by omega)
          go_enter Try.func27, Try.ntmps27
          go_wp2_with fail
          refine hlk.out.mono ?_
          rintro e w1 ⟨rfl, rfl⟩
          go_wp2_with fail
          obtain ⟨hA1, hA2⟩ := hA.out
          generalize W.setCell ⟨b, 2, none⟩ (.int .i64 ((r.last : Int) + 1)) = w2 at hA1 hA2 ⊢
          clear hA hlk c0 c1 c2 f2
          have hbl2 := hA1.lt
          have k0 := hA1.c0
          have k1 := hA1.c1
          have k2 := hA1.c2
          rw [hel.out] at k2
          have kf := hA1.free 0
          have hSB := Lib.hid (fun (w' : World) (hb : Below w2.heap.size w2 w') => (⟨(hb.cell (p := ⟨b, 0, none⟩) hbl2).trans k0, (hb.cell (p := ⟨b, 1, none⟩) hbl2).trans k1, (hb.cell (p := ⟨b, 2, none⟩) hbl2).trans k2, (hb.frozen (p := ⟨b, 0, none⟩) hbl2).trans kf⟩ : w'.cell? ⟨b, 0, none⟩ = some (.slice ao r.l.length cap) ∧ w'.cell? ⟨b, 1, none⟩ = some (.int .i64 r.now) ∧ w'.cell? ⟨b, 2, none⟩ = some (.int .i64 ((r.last : Int) + 1)) ∧ w'.frozen? ⟨b, 0, none⟩ = false))
          have hRl := Lib.hid (fun (w' : World) (hb : Below w2.heap.size w2 w') => (hA1.own.below' hb).rd)
          have hfin := Lib.hid (fun (w' : World) (v' : Value) (hb : Below w2.heap.size w2 w') (hf : ∀ g, v'.ownBlock = some g → w2.heap.size ≤ g) (ho : OwnP w' v' (r.l ++ [sendP r x y t d])) => send_fin hA1 hA2 hb hf ho)
          -- REGION
          refine wp_region_hd (fun w' => w'.cell? ⟨b, 0, none⟩ = some (.slice ao r.l.length cap) ∧ w'.cell? ⟨b, 1, none⟩ = some (.int .i64 r.now) ∧ w'.cell? ⟨b, 2, none⟩ = some (.int .i64 ((r.last : Int) + 1)) ∧ w'.frozen? ⟨b, 0, none⟩ = false) 23 3 (by kernel_rfl) rfl ⟨by kernel_rfl, by kernel_rfl, by kernel_rfl, by decide⟩ (hSB.out _ ((Below.refl _ w2).drew)) (fun hok hS0 => ?_)
          refine Hd.take (i := 0) (v := ?tv15) hok rfl (by kernel_rfl) (fun _ _ _ h => h) (Or.inl ⟨by rfl, ?ty15⟩) (by assumption) ?tr15
          case ty15 => (intro w hSw; (try dsimp only at hSw); go_simp; (try with_reducible rfl))
          try simp only [List.getElem_toArray, List.getElem_cons_succ, List.getElem_cons_zero, Act.put, List.setIfInBounds_toArray, List.set_cons_zero, List.set_cons_succ]
          refine Hd.take (i := 2) (v := ?tv16) hok rfl (by kernel_rfl) (fun _ _ _ h => h) (Or.inl ⟨by rfl, ?ty16⟩) (by assumption) ?tr16
          case ty16 => (intro w hSw; (try dsimp only at hSw); go_simp; (try with_reducible rfl))
          try simp only [List.getElem_toArray, List.getElem_cons_succ, List.getElem_cons_zero, Act.put, List.setIfInBounds_toArray, List.set_cons_zero, List.set_cons_succ]
          refine Hd.take (i := 3) (v := ?tv17) hok rfl (by kernel_rfl) (fun _ _ _ h => h) (Or.inl ⟨by rfl, ?ty17⟩) (by assumption) ?tr17
          case ty17 => (intro w hSw; (try dsimp only at hSw); go_simp; (try with_reducible rfl))
          try simp only [List.getElem_toArray, List.getElem_cons_succ, List.getElem_cons_zero, Act.put, List.setIfInBounds_toArray, List.set_cons_zero, List.set_cons_succ]
          refine Hd.take (i := 4) (v := ?tv18) hok rfl (by kernel_rfl) (fun _ _ _ h => h) (Or.inl ⟨by rfl, ?ty18⟩) (by assumption) ?tr18
          case ty18 => (intro w hSw; (try dsimp only at hSw); go_simp; (try with_reducible rfl))
          try simp only [List.getElem_toArray, List.getElem_cons_succ, List.getElem_cons_zero, Act.put, List.setIfInBounds_toArray, List.set_cons_zero, List.set_cons_succ]
          refine Hd.take (i := 5) (v := ?tv19) hok rfl (by kernel_rfl) (fun _ _ _ h => h) (Or.inl ⟨by rfl, ?ty19⟩) (by assumption) ?tr19
          case ty19 => (intro w hSw; (try dsimp only at hSw); go_simp; (try with_reducible rfl))
          try simp only [List.getElem_toArray, List.getElem_cons_succ, List.getElem_cons_zero, Act.put, List.setIfInBounds_toArray, List.set_cons_zero, List.set_cons_succ]
          refine Hd.take (i := 7) (v := ?tv20) hok rfl (by kernel_rfl) (fun _ _ _ h => h) (Or.inl ⟨by rfl, ?ty20⟩) (by assumption) ?tr20
          case ty20 => (intro w hSw; (try dsimp only at hSw); go_simp; (try with_reducible rfl))
          try simp only [List.getElem_toArray, List.getElem_cons_succ, List.getElem_cons_zero, Act.put, List.setIfInBounds_toArray, List.set_cons_zero, List.set_cons_succ]
          refine Hd.take (i := 8) (v := ?tv21) hok rfl (by kernel_rfl) (fun _ _ _ h => h) (Or.inl ⟨by rfl, ?ty21⟩) (by assumption) ?tr21
          case ty21 => (intro w hSw; (try dsimp only at hSw); go_simp; (try with_reducible rfl))
          try simp only [List.getElem_toArray, List.getElem_cons_succ, List.getElem_cons_zero, Act.put, List.setIfInBounds_toArray, List.set_cons_zero, List.set_cons_succ]
          refine Hd.take (i := 9) (v := ?tv22) hok rfl (by kernel_rfl) (fun _ _ _ h => h) (Or.inl ⟨by rfl, ?ty22⟩) (by assumption) ?tr22
          case ty22 => (intro w hSw; (try dsimp only at hSw); go_simp; (try with_reducible rfl))
          try simp only [List.getElem_toArray, List.getElem_cons_succ, List.getElem_cons_zero, Act.put, List.setIfInBounds_toArray, List.set_cons_zero, List.set_cons_succ]
          refine Hd.take (i := 10) (v := ?tv23) hok rfl (by kernel_rfl) (fun _ _ _ h => h) (Or.inl ⟨by rfl, ?ty23⟩) (by assumption) ?tr23
          case ty23 => (intro w hSw; (try dsimp only at hSw); go_simp; (try with_reducible rfl))
          try simp only [List.getElem_toArray, List.getElem_cons_succ, List.getElem_cons_zero, Act.put, List.setIfInBounds_toArray, List.set_cons_zero, List.set_cons_succ]
          refine Hd.take (i := 11) (v := ?tv24) hok rfl (by kernel_rfl) (fun _ _ _ h => h) (Or.inl ⟨by rfl, ?ty24⟩) (by assumption) ?tr24
          case ty24 => (intro w hSw; (try dsimp only at hSw); go_simp; (try with_reducible rfl))
          try simp only [List.getElem_toArray, List.getElem_cons_succ, List.getElem_cons_zero, Act.put, List.setIfInBounds_toArray, List.set_cons_zero, List.set_cons_succ]
          refine Hd.take (i := 12) (v := ?tv25) hok rfl (by kernel_rfl) (fun _ _ _ h => h) (Or.inl ⟨by rfl, ?ty25⟩) (by assumption) ?tr25
          case ty25 => (intro w hSw; (try dsimp only at hSw); go_simp; (try with_reducible rfl))
          try simp only [List.getElem_toArray, List.getElem_cons_succ, List.getElem_cons_zero, Act.put, List.setIfInBounds_toArray, List.set_cons_zero, List.set_cons_succ]
          refine Hd.take (i := 13) (v := ?tv26) hok rfl (by kernel_rfl) (fun _ _ _ h => h) (Or.inl ⟨by rfl, ?ty26⟩) (by assumption) ?tr26
          case ty26 => (intro w hSw; (try dsimp only at hSw); go_simp; (try with_reducible rfl))
          try simp only [List.getElem_toArray, List.getElem_cons_succ, List.getElem_cons_zero, Act.put, List.setIfInBounds_toArray, List.set_cons_zero, List.set_cons_succ]
          refine Hd.take (i := 14) (v := ?tv27) hok rfl (by kernel_rfl) (fun _ _ _ h => h) (Or.inl ⟨by rfl, ?ty27⟩) (by assumption) ?tr27
          case ty27 => (intro w hSw; (try dsimp only at hSw); go_simp; (try with_reducible rfl))
          try simp only [List.getElem_toArray, List.getElem_cons_succ, List.getElem_cons_zero, Act.put, List.setIfInBounds_toArray, List.set_cons_zero, List.set_cons_succ]
          refine Hd.take (i := 15) (v := ?tv28) hok rfl (by kernel_rfl) (fun _ _ _ h => h) (Or.inl ⟨by rfl, ?ty28⟩) (by assumption) ?tr28
          case ty28 => (intro w hSw; (try dsimp only at hSw); go_simp; (try with_reducible rfl))
          try simp only [List.getElem_toArray, List.getElem_cons_succ, List.getElem_cons_zero, Act.put, List.setIfInBounds_toArray, List.set_cons_zero, List.set_cons_succ]
          refine Hd.take (i := 16) (v := ?tv29) hok rfl (by kernel_rfl) (fun _ _ _ h => h) (Or.inl ⟨by rfl, ?ty29⟩) (by assumption) ?tr29
          case ty29 => (intro w hSw; (try dsimp only at hSw); go_simp; (try with_reducible rfl))
          try simp only [List.getElem_toArray, List.getElem_cons_succ, List.getElem_cons_zero, Act.put, List.setIfInBounds_toArray, List.set_cons_zero, List.set_cons_succ]
          refine Hd.take (i := 17) (v := ?tv30) hok rfl (by kernel_rfl) (fun _ _ _ h => h) (Or.inl ⟨by rfl, ?ty30⟩) (by assumption) ?tr30
          case ty30 => (intro w hSw; (try dsimp only at hSw); go_simp; (try with_reducible rfl))
          try simp only [List.getElem_toArray, List.getElem_cons_succ, List.getElem_cons_zero, Act.put, List.setIfInBounds_toArray, List.set_cons_zero, List.set_cons_succ]
          refine Hd.take (i := 18) (v := ?tv31) hok rfl (by kernel_rfl) (fun _ _ _ h => h) (Or.inl ⟨by rfl, ?ty31⟩) (by assumption) ?tr31
          case ty31 => (intro w hSw; (try dsimp only at hSw); go_simp; (try with_reducible rfl))
          try simp only [List.getElem_toArray, List.getElem_cons_succ, List.getElem_cons_zero, Act.put, List.setIfInBounds_toArray, List.set_cons_zero, List.set_cons_succ]
          refine Hd.take (i := 19) (v := ?tv32) hok rfl (by kernel_rfl) (fun _ _ _ h => h) (Or.inl ⟨by rfl, ?ty32⟩) (by assumption) ?tr32
          case ty32 => (intro w hSw; (try dsimp only at hSw); go_simp; (try with_reducible rfl))
          try simp only [List.getElem_toArray, List.getElem_cons_succ, List.getElem_cons_zero, Act.put, List.setIfInBounds_toArray, List.set_cons_zero, List.set_cons_succ]
          refine Hd.take (i := 20) (v := ?tv33) hok rfl (by kernel_rfl) (fun _ _ _ h => h) (Or.inl ⟨by rfl, ?ty33⟩) (by assumption) ?tr33
          case ty33 => (intro w hSw; (try dsimp only at hSw); go_simp; (try with_reducible rfl))
          try simp only [List.getElem_toArray, List.getElem_cons_succ, List.getElem_cons_zero, Act.put, List.setIfInBounds_toArray, List.set_cons_zero, List.set_cons_succ]
          have hb0 : Below w2.heap.size w2 w2.drew := (Below.refl _ w2).drew
          refine Hd.two (i := 1) (k := 21) rfl rfl (by kernel_rfl) (fun K hK => ?_) (fun K hK => ?_)
          · go_simp
            have hb1 := hb0.alloc hb0.size (.cells #[] 30)
            refine hK _ _ (hSB.out _ hb1) ?_
            clear hK K
            have hSx := hSB.out _ hb1
            try simp only [List.getElem_toArray, List.getElem_cons_succ, List.getElem_cons_zero, Act.put, List.setIfInBounds_toArray, List.set_cons_zero, List.set_cons_succ]
            have hE := own_empty_at (w2.drew) (w2.heap.size) (by simp)
            refine Hd.two (i := 6) (k := 21) rfl rfl (by kernel_rfl) (fun K hK => ?_) (fun K hK => ?_)
            · refine step_append_pks (by rfl) _ _ (by rfl) (.slice (some ⟨w2.heap.size, 0, none⟩) 0 0) (.slice ao r.l.length cap) [] r.l (by rfl) (by rfl) hE (hRl.out _ hb1) (by simp; omega) ?_
              intro v1 w3 hown1 hgr1 hat1
              have hb2 := grown_below hb1 hgr1 (fun k hk => by simp [Value.ownBlock] at hk; have := hb1.size; simp at this; try omega)
              have hf1 := fresh_next (B := w2.heap.size) (fun k hk => by simp [Value.ownBlock] at hk; try omega) hb1.size hat1
              refine hK _ _ (hSB.out _ hb2) ?_
              clear hK K
              have hSx := hSB.out _ hb2
              try simp only [List.getElem_toArray, List.getElem_cons_succ, List.getElem_cons_zero, Act.put, List.setIfInBounds_toArray, List.set_cons_zero, List.set_cons_succ]
              refine Hd.one (i := 21) rfl (by kernel_rfl) (fun K hK => ?_)
              go_simp
              have hb3 := hb2.alloc hb2.size (.cells (pkArr (sendP r x y t d)) 30)
              refine hK _ _ (hSB.out _ hb3) ?_
              clear hK K
              have hSx := hSB.out _ hb3
              try simp only [List.getElem_toArray, List.getElem_cons_succ, List.getElem_cons_zero, Act.put, List.setIfInBounds_toArray, List.set_cons_zero, List.set_cons_succ]
              have hX := heap_alloc_at (w3) (.cells (pkArr (sendP r x y t d)) 30) (w3.heap.size) (by simp)
              have hown1 := hown1.below' ((Below.refl _ _).alloc (Nat.le_refl _) (.cells (pkArr (sendP r x y t d)) 30))
              refine Hd.one (i := 22) rfl (by kernel_rfl) (fun K hK => ?_)
              refine step_append_pks (by rfl) _ _ (by rfl) v1 (.slice (some ⟨w3.heap.size, 0, none⟩) 1 1) _ [sendP r x y t d] (by rfl) (by rfl) hown1 (rd_block hX) (by simp; omega) ?_
              intro v2 w4 hown2 hgr2 hat2
              have hb4 := grown_below hb3 hgr2 hf1
              have hf2 := fresh_next hf1 hb3.size hat2
              refine hK _ _ (hSB.out _ hb4) ?_
              clear hK K
              try simp only [List.getElem_toArray, List.getElem_cons_succ, List.getElem_cons_zero, Act.put, List.setIfInBounds_toArray, List.set_cons_zero, List.set_cons_succ]
              refine Hd.done (by kernel_rfl) ?_
              simp only [List.drop_succ_cons, List.drop_zero]
              obtain ⟨hR, hL, c0, c2, f0⟩ := hfin.out w4 v2 hb4 hf2 (by simpa using hown2)
              rw [hel.out] at c2
              obtain ⟨ao2, cap2, hvv⟩ := hown2.len
              generalize ([] ++ r.l ++ [sendP r x y t d]).length = n2 at hvv
              have hne : b < w4.heap.size := Nat.lt_of_lt_of_le hbl2 hb4.size
              clear hfin hown1 hown2 hgr1 hgr2 hat1 hat2 hf1 hf2 hSB hRl hE hX hok hSx hS0 hb0 hb1 hb2 hb3 hb4 hel
              subst hvv
              go_wp2_with fail
              go_ret2
              exact ⟨rfl, _, hR, hL⟩
            · go_simp
              have hb2 := hb1.alloc hb1.size (.cells (pkArr (sendP r x y t d)) 30)
              refine hK _ _ (hSB.out _ hb2) ?_
              clear hK K
              have hSx := hSB.out _ hb2
              try simp only [List.getElem_toArray, List.getElem_cons_succ, List.getElem_cons_zero, Act.put, List.setIfInBounds_toArray, List.set_cons_zero, List.set_cons_succ]
              have hX := heap_alloc_at ((w2.drew).alloc (.cells #[] 30)) (.cells (pkArr (sendP r x y t d)) 30) (w2.heap.size + 1) (by simp)
              have hE := hE.below' ((Below.refl _ _).alloc (Nat.le_refl _) (.cells (pkArr (sendP r x y t d)) 30))
              refine Hd.one (i := 6) rfl (by kernel_rfl) (fun K hK => ?_)
              refine step_append_pks (by rfl) _ _ (by rfl) (.slice (some ⟨w2.heap.size, 0, none⟩) 0 0) (.slice ao r.l.length cap) [] r.l (by rfl) (by rfl) hE (hRl.out _ hb2) (by simp; omega) ?_
              intro v1 w3 hown1 hgr1 hat1
              have hb3 := grown_below hb2 hgr1 (fun k hk => by simp [Value.ownBlock] at hk; have := hb2.size; simp at this; try omega)
              have hf1 := fresh_next (B := w2.heap.size) (fun k hk => by simp [Value.ownBlock] at hk; try omega) hb2.size hat1
              refine hK _ _ (hSB.out _ hb3) ?_
              clear hK K
              have hSx := hSB.out _ hb3
              try simp only [List.getElem_toArray, List.getElem_cons_succ, List.getElem_cons_zero, Act.put, List.setIfInBounds_toArray, List.set_cons_zero, List.set_cons_succ]
              have hX := (hgr1.block _ (Array.getElem?_eq_some_iff.1 hX).1 (by simp [Value.ownBlock])).trans hX
              refine Hd.one (i := 22) rfl (by kernel_rfl) (fun K hK => ?_)
              refine step_append_pks (by rfl) _ _ (by rfl) v1 (.slice (some ⟨w2.heap.size + 1, 0, none⟩) 1 1) _ [sendP r x y t d] (by rfl) (by rfl) hown1 (rd_block hX) (by simp; omega) ?_
              intro v2 w4 hown2 hgr2 hat2
              have hb4 := grown_below hb3 hgr2 hf1
              have hf2 := fresh_next hf1 hb3.size hat2
              refine hK _ _ (hSB.out _ hb4) ?_
              clear hK K
              try simp only [List.getElem_toArray, List.getElem_cons_succ, List.getElem_cons_zero, Act.put, List.setIfInBounds_toArray, List.set_cons_zero, List.set_cons_succ]
              refine Hd.done (by kernel_rfl) ?_
              simp only [List.drop_succ_cons, List.drop_zero]
              obtain ⟨hR, hL, c0, c2, f0⟩ := hfin.out w4 v2 hb4 hf2 (by simpa using hown2)
              rw [hel.out] at c2
              obtain ⟨ao2, cap2, hvv⟩ := hown2.len
              generalize ([] ++ r.l ++ [sendP r x y t d]).length = n2 at hvv
              have hne : b < w4.heap.size := Nat.lt_of_lt_of_le hbl2 hb4.size
              clear hfin hown1 hown2 hgr1 hgr2 hat1 hat2 hf1 hf2 hSB hRl hE hX hok hSx hS0 hb0 hb1 hb2 hb3 hb4 hel
              subst hvv
              go_wp2_with fail
              go_ret2
              exact ⟨rfl, _, hR, hL⟩
          · go_simp
            have hb1 := hb0.alloc hb0.size (.cells (pkArr (sendP r x y t d)) 30)
            refine hK _ _ (hSB.out _ hb1) ?_
            clear hK K
            have hSx := hSB.out _ hb1
            try simp only [List.getElem_toArray, List.getElem_cons_succ, List.getElem_cons_zero, Act.put, List.setIfInBounds_toArray, List.set_cons_zero, List.set_cons_succ]
            have hX := heap_alloc_at (w2.drew) (.cells (pkArr (sendP r x y t d)) 30) (w2.heap.size) (by simp)
            refine Hd.one (i := 1) rfl (by kernel_rfl) (fun K hK => ?_)
            go_simp
            have hb2 := hb1.alloc hb1.size (.cells #[] 30)
            refine hK _ _ (hSB.out _ hb2) ?_
            clear hK K
            have hSx := hSB.out _ hb2
            try simp only [List.getElem_toArray, List.getElem_cons_succ, List.getElem_cons_zero, Act.put, List.setIfInBounds_toArray, List.set_cons_zero, List.set_cons_succ]
            have hE := own_empty_at ((w2.drew).alloc (.cells (pkArr (sendP r x y t d)) 30)) (w2.heap.size + 1) (by simp)
            have hX := (heap_alloc_old ((w2.drew).alloc (.cells (pkArr (sendP r x y t d)) 30)) (.cells #[] 30) (Array.getElem?_eq_some_iff.1 hX).1).trans hX
            refine Hd.one (i := 6) rfl (by kernel_rfl) (fun K hK => ?_)
            refine step_append_pks (by rfl) _ _ (by rfl) (.slice (some ⟨w2.heap.size + 1, 0, none⟩) 0 0) (.slice ao r.l.length cap) [] r.l (by rfl) (by rfl) hE (hRl.out _ hb2) (by simp; omega) ?_
            intro v1 w3 hown1 hgr1 hat1
            have hb3 := grown_below hb2 hgr1 (fun k hk => by simp [Value.ownBlock] at hk; have := hb2.size; simp at this; try omega)
            have hf1 := fresh_next (B := w2.heap.size) (fun k hk => by simp [Value.ownBlock] at hk; try omega) hb2.size hat1
            refine hK _ _ (hSB.out _ hb3) ?_
            clear hK K
            have hSx := hSB.out _ hb3
            try simp only [List.getElem_toArray, List.getElem_cons_succ, List.getElem_cons_zero, Act.put, List.setIfInBounds_toArray, List.set_cons_zero, List.set_cons_succ]
            have hX := (hgr1.block _ (Array.getElem?_eq_some_iff.1 hX).1 (by simp [Value.ownBlock])).trans hX
            refine Hd.one (i := 22) rfl (by kernel_rfl) (fun K hK => ?_)
            refine step_append_pks (by rfl) _ _ (by rfl) v1 (.slice (some ⟨w2.heap.size, 0, none⟩) 1 1) _ [sendP r x y t d] (by rfl) (by rfl) hown1 (rd_block hX) (by simp; omega) ?_
            intro v2 w4 hown2 hgr2 hat2
            have hb4 := grown_below hb3 hgr2 hf1
            have hf2 := fresh_next hf1 hb3.size hat2
            refine hK _ _ (hSB.out _ hb4) ?_
            clear hK K
            try simp only [List.getElem_toArray, List.getElem_cons_succ, List.getElem_cons_zero, Act.put, List.setIfInBounds_toArray, List.set_cons_zero, List.set_cons_succ]
            refine Hd.done (by kernel_rfl) ?_
            simp only [List.drop_succ_cons, List.drop_zero]
            obtain ⟨hR, hL, c0, c2, f0⟩ := hfin.out w4 v2 hb4 hf2 (by simpa using hown2)
            rw [hel.out] at c2
            obtain ⟨ao2, cap2, hvv⟩ := hown2.len
            generalize ([] ++ r.l ++ [sendP r x y t d]).length = n2 at hvv
            have hne : b < w4.heap.size := Nat.lt_of_lt_of_le hbl2 hb4.size
            clear hfin hown1 hown2 hgr1 hgr2 hat1 hat2 hf1 hf2 hSB hRl hE hX hok hSx hS0 hb0 hb1 hb2 hb3 hb4 hel
            subst hvv
            go_wp2_with fail
            go_ret2
            exact ⟨rfl, _, hR, hL⟩
end Go.Proofs.Ytjopbglimjhefaa
