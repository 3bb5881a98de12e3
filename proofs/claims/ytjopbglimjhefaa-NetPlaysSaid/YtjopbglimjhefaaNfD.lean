/- The document's net: out: walked. -/
import Derived.Test.YtjopbglimjhefaaNfC
import Derived.Test.YtjopbglimjhefaaReg
namespace Go.Proofs.Ytjopbglimjhefaa
set_option linter.unusedSimpArgs false
open Go.RowKit Go.Maps Go.WideMaps
attribute [local go_sem ↓] Go.wp_at_zero Go.wp_at_succ

theorem OwnP.rd_take {W : World} {v : Value} {l : List Pk} (h : OwnP W v l) {g cap : Nat} (hv : v = .slice (some ⟨g, 0, none⟩) l.length cap) (i : Nat) (hi : i ≤ l.length) : Rd W (.slice (some ⟨g, 0, none⟩) i cap) (l.take i).length (rowCells (l.take i)) := by
  obtain ⟨ao, cap', hv', h1⟩ := h.rd
  rw [hv] at hv'
  injection hv' with e1 e2 e3
  subst e1 e3
  have hli : (l.take i).length = i := by rw [List.length_take]; omega
  rw [hli]
  refine ⟨_, _, rfl, ?_⟩
  rcases h1 with h1 | ⟨b, o, hb, hlt, hle, hc⟩
  · left; omega
  · right
    refine ⟨b, o, hb, hlt, by omega, fun j u hu => hc j u ?_⟩
    have e : rowCells l = rowCells (l.take i) ++ rowCells (l.drop i) := by rw [← rowCells_app, List.take_append_drop]
    rw [e, List.getElem?_append_left]
    · exact hu
    · exact (List.getElem?_eq_some_iff.1 hu).1
theorem OwnP.rd_drop {W : World} {v : Value} {l : List Pk} (h : OwnP W v l) {g cap : Nat} (hv : v = .slice (some ⟨g, 0, none⟩) l.length cap) (i cap2 : Nat) (hi : i ≤ l.length) (hc2 : l.length - i ≤ cap2) (n : Nat) (hn : n = l.length - i) : Rd W (.slice (some ⟨g, i * 5, none⟩) n cap2) (l.drop i).length (rowCells (l.drop i)) := by
  subst hn
  obtain ⟨ao, cap', hv', h1⟩ := h.rd
  rw [hv] at hv'
  injection hv' with e1 e2 e3
  subst e1 e3
  have hli : (l.drop i).length = l.length - i := List.length_drop
  rw [hli]
  refine ⟨_, _, rfl, ?_⟩
  rcases h1 with h1 | ⟨b, o, hb, hlt, hle, hc⟩
  · left; omega
  · right
    injection hb with hb
    injection hb with hb1 hb2 _
    subst hb1 hb2
    refine ⟨g, i * 5, rfl, hlt, hc2, fun j u hu => ?_⟩
    have := hc (i * 5 + j) u (by
      have e : rowCells l = rowCells (l.take i) ++ rowCells (l.drop i) := by rw [← rowCells_app, List.take_append_drop]
      have e2 : (rowCells (l.take i)).length = i * 5 := by rw [rowCells_len, List.length_take]; congr 1; omega
      rw [e, List.getElem?_append_right (by omega), e2, Nat.add_sub_cancel_left]
      exact hu)
    rwa [Nat.zero_add] at this
theorem OwnP.below' {W W' : World} {v : Value} {l : List Pk} (h : OwnP W v l) (hb : Below W.heap.size W W') : OwnP W' v l := h.block (fun g hg => hb.block g (h.lt hg))
theorem far_keep {w w' : World} {row : Option Nat} {b : Nat} {v : Value} (hg : w.grownBy w' row) (hb : b < w.heap.size) (hne : row ≠ some b) (h : w.cell? ⟨b, 0, none⟩ = some v ∧ w.frozen? ⟨b, 0, none⟩ = false) : w'.cell? ⟨b, 0, none⟩ = some v ∧ w'.frozen? ⟨b, 0, none⟩ = false :=
  ⟨(hg.cell_far ⟨b, 0, none⟩ hb (Ne.symm hne)).trans h.1, (hg.frozen_far ⟨b, 0, none⟩ hb (Ne.symm hne)).trans h.2⟩
theorem far_next {w w' : World} {v' : Value} {b B : Nat} (hb : b < w.heap.size) (hg : w.grownBy w' (Value.slice (some ⟨B, 0, none⟩) 0 0).ownBlock) (hat : ∀ g, v'.ownBlock = some g → (Value.slice (some ⟨B, 0, none⟩) 0 0).ownBlock = some g ∨ w.heap.size ≤ g) (hB : b ≠ B) : b < w'.heap.size ∧ v'.ownBlock ≠ some b :=
  ⟨Nat.lt_of_lt_of_le hb hg.size, fun e => by
    rcases hat b e with q | q
    · simp [Value.ownBlock] at q; exact hB q.symm
    · omega⟩
theorem fresh_next {w : World} {v v' : Value} {B : Nat} (hB : ∀ g, v.ownBlock = some g → B ≤ g) (hw : B ≤ w.heap.size) (hat : ∀ g, v'.ownBlock = some g → v.ownBlock = some g ∨ w.heap.size ≤ g) : ∀ g, v'.ownBlock = some g → B ≤ g := fun g hg => by
  rcases hat g hg with q | q
  · exact hB g q
  · omega
theorem grown_below {W0 W w' : World} {v : Value} (hb : Below W0.heap.size W0 W) (hg : W.grownBy w' v.ownBlock) (hv : ∀ k, v.ownBlock = some k → W0.heap.size ≤ k) : Below W0.heap.size W0 w' := hb.grown hg hb.size hv
theorem out_rest {w w1 : World} {g cap B : Nat} {l : List Pk} (ho : OwnP w (.slice (some ⟨g, 0, none⟩) l.length cap) l) (hg : w.grownBy w1 (Value.slice (some ⟨B, 0, none⟩) 0 0).ownBlock) (hne : g ≠ B) (i : Nat) (hcap : l.length ≤ cap) (hi : i < l.length) :
    Rd w1 (.slice (if cap = i + 1 then some ⟨g, 0, none⟩ else some ⟨g, (i + 1) * 5, none⟩) (l.length - (i + 1)) (cap - (i + 1))) (l.drop (i + 1)).length (rowCells (l.drop (i + 1))) := by
  have ho1 : OwnP w1 (.slice (some ⟨g, 0, none⟩) l.length cap) l := ho.block (fun k hk => by
    have e : g = k := by simpa [Value.ownBlock] using hk
    subst e
    exact hg.block g (ho.lt hk) (by simp [Value.ownBlock]; omega))
  by_cases e : cap = i + 1
  · rw [if_pos e]
    have hz : (l.drop (i + 1)).length = 0 := by rw [List.length_drop]; omega
    rw [hz]
    exact ⟨_, _, by rw [show l.length - (i + 1) = 0 by omega], .inl rfl⟩
  · rw [if_neg e]
    exact ho1.rd_drop rfl (i + 1) _ (by omega) (by omega) _ rfl
set_option maxRecDepth 100000 in
set_option maxHeartbeats 4000000 in
theorem refOut_any (b : Nat) (v : Value) (r : Rs) (i : Nat) (hi : i < r.l.length) (hl : r.l.length ≤ 1000) (W : World) (h : RefAt W b v r) :
    Calls Try.prog 42 #[.pointer (some ⟨b, 0, none⟩), .int .i64 i] W fun e w' => e = .returned (.tuple #[]) ∧ ∃ v', Hid (RefAt w' b v' ⟨r.l.eraseIdx i, r.now, r.last, r.cs⟩) ∧ Hid (RSame W b w' ∧ Later W v v') := by
  obtain ⟨g, cap, hv, hg, -⟩ := h.own.cells hi
  have hcap : r.l.length ≤ cap := by
    have := h.own.rd
    rw [hv] at this
    exact this.cap_le (by omega)
  have c0 := h.c0
  have f0 := h.free 0
  have hbl := h.lt
  subst hv
  have hbg : b ≠ g := fun e => h.vb (by simp [Value.ownBlock, e])
  have hbs : b ≠ W.heap.size := by omega
  have hgs : g ≠ W.heap.size := by omega
  have hi0 : (0 : Int) ≤ (i : Int) := by omega
  have hi1 : (i : Int) ≤ (cap : Int) := by omega
  have hi2 : (i : Int) + 1 ≤ (r.l.length : Int) := by omega
  have hi3 : (0 : Int) ≤ (i : Int) + 1 := by omega
  have hw : IntKind.i64.wrap ((i : Int) + 1) = (i : Int) + 1 := IntWalk.i64_in _ (by omega)
  have hn : ((i : Int) + 1).toNat = i + 1 := by omega
  have hbE : Below W.heap.size W (W.alloc (.cells #[] 30)).drew := ((Below.refl _ W).alloc (Nat.le_refl _) _).drew
  have hoE := Lib.hid (h.own.below' hbE)
  have hR1 := Lib.hid (hoE.out.rd_take rfl i (by omega))
  have hk0 : (W.alloc (.cells #[] 30)).drew.cell? ⟨b, 0, none⟩ = some (.slice (some ⟨g, 0, none⟩) r.l.length cap) ∧ (W.alloc (.cells #[] 30)).drew.frozen? ⟨b, 0, none⟩ = false := ⟨(hbE.cell (p := ⟨b, 0, none⟩) hbl).trans c0, (hbE.frozen (p := ⟨b, 0, none⟩) hbl).trans f0⟩
  replace hk0 := Lib.hid hk0
  have hb0 : b < (W.alloc (.cells #[] 30)).drew.heap.size := Nat.lt_of_lt_of_le hbl hbE.size
  have hne0 : (Value.slice (some ⟨W.heap.size, 0, none⟩) 0 0).ownBlock ≠ some b := by simp [Value.ownBlock]; omega
  have hR2f := Lib.hid (fun (w1 : World) (hg1 : (W.alloc (.cells #[] 30)).drew.grownBy w1 (Value.slice (some ⟨W.heap.size, 0, none⟩) 0 0).ownBlock) => out_rest (w1 := w1) hoE.out hg1 hgs i hcap hi)
  replace hbE := Lib.hid hbE
  replace h := Lib.hid h
  go_enter Try.func42, Try.ntmps42
  go_wp2_with fail
  refine wp_region_hd (fun w' => w'.cell? ⟨b, 0, none⟩ = some (.slice (some ⟨g, 0, none⟩) r.l.length cap) ∧ w'.frozen? ⟨b, 0, none⟩ = false) 17 3 (by kernel_rfl) rfl ⟨by kernel_rfl, by kernel_rfl, by kernel_rfl, by decide⟩ ⟨c0, f0⟩ (fun hok hS0 => ?_)
  refine Hd.take (i := 0) (v := ?tv1) hok rfl (by kernel_rfl) (fun _ _ _ h => h) (Or.inl ⟨by rfl, ?ty1⟩) (by assumption) ?tr1
  case ty1 => (intro w hSw; (try dsimp only at hSw); go_simp; (try with_reducible rfl))
  try simp only [List.getElem_toArray, List.getElem_cons_succ, List.getElem_cons_zero, Act.put, List.setIfInBounds_toArray, List.set_cons_zero, List.set_cons_succ]
  refine Hd.take (i := 2) (v := ?tv2) hok rfl (by kernel_rfl) (fun _ _ _ h => h) (Or.inl ⟨by rfl, ?ty2⟩) (by assumption) ?tr2
  case ty2 => (intro w hSw; (try dsimp only at hSw); go_simp; (try with_reducible rfl))
  try simp only [List.getElem_toArray, List.getElem_cons_succ, List.getElem_cons_zero, Act.put, List.setIfInBounds_toArray, List.set_cons_zero, List.set_cons_succ]
  refine Hd.take (i := 3) (v := ?tv3) hok rfl (by kernel_rfl) (fun _ _ _ h => h) (Or.inl ⟨by rfl, ?ty3⟩) (by assumption) ?tr3
  case ty3 => (intro w hSw; (try dsimp only at hSw); go_simp; (try with_reducible rfl))
  try simp only [List.getElem_toArray, List.getElem_cons_succ, List.getElem_cons_zero, Act.put, List.setIfInBounds_toArray, List.set_cons_zero, List.set_cons_succ]
  refine Hd.take (i := 4) (v := ?tv4) hok rfl (by kernel_rfl) (fun _ _ _ h => h) (Or.inl ⟨by rfl, ?ty4⟩) (by assumption) ?tr4
  case ty4 => (intro w hSw; (try dsimp only at hSw); go_simp; (try with_reducible rfl))
  try simp only [List.getElem_toArray, List.getElem_cons_succ, List.getElem_cons_zero, Act.put, List.setIfInBounds_toArray, List.set_cons_zero, List.set_cons_succ]
  refine Hd.take (i := 5) (v := ?tv5) hok rfl (by kernel_rfl) (fun _ _ _ h => h) (Or.inl ⟨by rfl, ?ty5⟩) (by assumption) ?tr5
  case ty5 => (intro w hSw; (try dsimp only at hSw); go_simp; (try with_reducible rfl))
  try simp only [List.getElem_toArray, List.getElem_cons_succ, List.getElem_cons_zero, Act.put, List.setIfInBounds_toArray, List.set_cons_zero, List.set_cons_succ]
  refine Hd.take (i := 6) (v := ?tv6) hok rfl (by kernel_rfl) (fun _ _ _ h => h) (Or.inl ⟨by rfl, ?ty6⟩) (by assumption) ?tr6
  case ty6 => (intro w hSw; (try dsimp only at hSw); go_simp; (try with_reducible rfl))
  try simp only [List.getElem_toArray, List.getElem_cons_succ, List.getElem_cons_zero, Act.put, List.setIfInBounds_toArray, List.set_cons_zero, List.set_cons_succ]
  refine Hd.take (i := 7) (v := ?tv7) hok rfl (by kernel_rfl) (fun _ _ _ h => h) (Or.inl ⟨by rfl, ?ty7⟩) (by assumption) ?tr7
  case ty7 => (intro w hSw; (try dsimp only at hSw); go_simp; (try with_reducible rfl))
  try simp only [List.getElem_toArray, List.getElem_cons_succ, List.getElem_cons_zero, Act.put, List.setIfInBounds_toArray, List.set_cons_zero, List.set_cons_succ]
  refine Hd.take (i := 9) (v := ?tv8) hok rfl (by kernel_rfl) (fun _ _ _ h => h) (Or.inl ⟨by rfl, ?ty8⟩) (by assumption) ?tr8
  case ty8 => (intro w hSw; (try dsimp only at hSw); go_simp; (try with_reducible rfl))
  try simp only [List.getElem_toArray, List.getElem_cons_succ, List.getElem_cons_zero, Act.put, List.setIfInBounds_toArray, List.set_cons_zero, List.set_cons_succ]
  refine Hd.take (i := 10) (v := ?tv9) hok rfl (by kernel_rfl) (fun _ _ _ h => h) (Or.inl ⟨by rfl, ?ty9⟩) (by assumption) ?tr9
  case ty9 => (intro w hSw; (try dsimp only at hSw); go_simp; (try with_reducible rfl))
  try simp only [List.getElem_toArray, List.getElem_cons_succ, List.getElem_cons_zero, Act.put, List.setIfInBounds_toArray, List.set_cons_zero, List.set_cons_succ]
  refine Hd.take (i := 11) (v := ?tv10) hok rfl (by kernel_rfl) (fun _ _ _ h => h) (Or.inl ⟨by rfl, ?ty10⟩) (by assumption) ?tr10
  case ty10 => (intro w hSw; (try dsimp only at hSw); go_simp; (try with_reducible rfl))
  try simp only [List.getElem_toArray, List.getElem_cons_succ, List.getElem_cons_zero, Act.put, List.setIfInBounds_toArray, List.set_cons_zero, List.set_cons_succ]
  refine Hd.take (i := 12) (v := ?tv11) hok rfl (by kernel_rfl) (fun _ _ _ h => h) (Or.inl ⟨by rfl, ?ty11⟩) (by assumption) ?tr11
  case ty11 => (intro w hSw; (try dsimp only at hSw); go_simp; (try with_reducible rfl))
  try simp only [List.getElem_toArray, List.getElem_cons_succ, List.getElem_cons_zero, Act.put, List.setIfInBounds_toArray, List.set_cons_zero, List.set_cons_succ]
  refine Hd.take (i := 13) (v := ?tv12) hok rfl (by kernel_rfl) (fun _ _ _ h => h) (Or.inl ⟨by rfl, ?ty12⟩) (by assumption) ?tr12
  case ty12 => (intro w hSw; (try dsimp only at hSw); go_simp; (try with_reducible rfl))
  try simp only [List.getElem_toArray, List.getElem_cons_succ, List.getElem_cons_zero, Act.put, List.setIfInBounds_toArray, List.set_cons_zero, List.set_cons_succ]
  refine Hd.take (i := 14) (v := ?tv13) hok rfl (by kernel_rfl) (fun _ _ _ h => h) (Or.inl ⟨by rfl, ?ty13⟩) (by assumption) ?tr13
  case ty13 => (intro w hSw; (try dsimp only at hSw); go_simp; (try with_reducible rfl))
  try simp only [List.getElem_toArray, List.getElem_cons_succ, List.getElem_cons_zero, Act.put, List.setIfInBounds_toArray, List.set_cons_zero, List.set_cons_succ]
  refine Hd.take (i := 15) (v := ?tv14) hok rfl (by kernel_rfl) (fun _ _ _ h => h) (Or.inl ⟨by rfl, ?ty14⟩) (by assumption) ?tr14
  case ty14 => (intro w hSw; (try dsimp only at hSw); go_simp; (try with_reducible rfl))
  try simp only [List.getElem_toArray, List.getElem_cons_succ, List.getElem_cons_zero, Act.put, List.setIfInBounds_toArray, List.set_cons_zero, List.set_cons_succ]
  refine Hd.one (i := 1) rfl (by kernel_rfl) (fun K hK => ?_)
  go_simp
  refine hK _ _ hk0.out ?_
  clear hK K
  try simp only [List.getElem_toArray, List.getElem_cons_succ, List.getElem_cons_zero, Act.put, List.setIfInBounds_toArray, List.set_cons_zero, List.set_cons_succ]
  refine Hd.one (i := 8) rfl (by kernel_rfl) (fun K hK => ?_)
  refine step_append_pks (by rfl) _ _ (by rfl) (.slice (some ⟨W.heap.size, 0, none⟩) 0 0) (.slice (some ⟨g, 0, none⟩) i cap) [] (r.l.take i) (by rfl) (by rfl) (OwnP.drew (own_empty W)) hR1.out (by rw [List.length_take, List.length_nil]; omega) ?_
  intro v1 w1 hown1 hgr1 hat1
  obtain ⟨hb1, hne1⟩ := far_next hb0 hgr1 hat1 hbs
  have hS1 := far_keep hgr1 hb0 hne0 hk0.out
  have hR2 := hR2f.out w1 hgr1
  refine hK _ _ hS1 ?_
  clear hK K
  try simp only [List.getElem_toArray, List.getElem_cons_succ, List.getElem_cons_zero, Act.put, List.setIfInBounds_toArray, List.set_cons_zero, List.set_cons_succ]
  refine Hd.one (i := 16) rfl (by kernel_rfl) (fun K hK => ?_)
  refine step_append_pks (by rfl) _ _ (by rfl) v1 (.slice (if cap = i + 1 then some ⟨g, 0, none⟩ else some ⟨g, (i + 1) * 5, none⟩) (r.l.length - (i + 1)) (cap - (i + 1))) _ (r.l.drop (i + 1)) (by rfl) (by rfl) hown1 hR2 (by simp; omega) ?_
  intro v2 w2 hown2 hgr2 hat2
  have hS2 := far_keep hgr2 hb1 hne1 hS1
  refine hK _ _ hS2 ?_
  clear hK K
  try simp only [List.getElem_toArray, List.getElem_cons_succ, List.getElem_cons_zero, Act.put, List.setIfInBounds_toArray, List.set_cons_zero, List.set_cons_succ]
  refine Hd.done (by kernel_rfl) ?_
  simp only [List.drop_succ_cons, List.drop_zero]
  have hB1 : Below W.heap.size W w1 := grown_below hbE.out hgr1 (fun k hk => by simp [Value.ownBlock] at hk; omega)
  have hf1 := fresh_next (B := W.heap.size) (fun k hk => by simp [Value.ownBlock] at hk; omega) hbE.out.size hat1
  have hB2 : Below W.heap.size W w2 := grown_below hB1 hgr2 hf1
  have hf2 := fresh_next hf1 hB1.size hat2
  have hv2 : v2.ownBlock ≠ some b := fun e => by have := hf2 b e; omega
  have hend := (h.out.below hB2).setL (by rw [List.eraseIdx_eq_take_drop_succ]; simpa using hown2 : OwnP w2 v2 (r.l.eraseIdx i)) hv2
  obtain ⟨ao2, cap2, hvv⟩ := hown2.len
  generalize ([] ++ r.l.take i ++ r.l.drop (i + 1)).length = n2 at hvv
  have hR := Lib.hid hend.1
  have hL := Lib.hid (And.intro ((RSame.of_below hB2 b).trans hend.2) (show Later W (.slice (some ⟨g, 0, none⟩) r.l.length cap) v2 from fun k hk => .inr (hf2 k hk)))
  obtain ⟨c2, f2⟩ := hS2
  clear hend hB1 hB2 hf1 hf2 hv2 hown1 hown2 hgr1 hgr2 hat1 hat2 hR1 hR2 hR2f hok hoE hbE hk0 hb0 hb1 hne0 hne1 hS1 hS0 h c0 f0
  subst hvv
  go_wp2_with fail
  all_goals
    go_end0
    exact ⟨rfl, _, hR, hL⟩
end Go.Proofs.Ytjopbglimjhefaa
