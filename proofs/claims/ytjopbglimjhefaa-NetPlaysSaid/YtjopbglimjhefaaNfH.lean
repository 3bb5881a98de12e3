/- The document's net: Next: walked. -/
import Derived.Test.YtjopbglimjhefaaNfG
namespace Go.Proofs.Ytjopbglimjhefaa
set_option linter.unusedSimpArgs false
open Go.RowKit Go.Maps Go.WideMaps

theorem RefAt.kept {W W' : World} {b B : Nat} {v : Value} {r : Rs} (h : RefAt W b v r) (hk : Kept1 W B W') (hb : B ≠ b) (hv : v.ownBlock ≠ some B) : RefAt W' b v r :=
  h.same (fun k hk1 => hk.2.2.2.2 k (by
    rcases hk1 with rfl | h1
    · exact h.lt
    · exact h.own.lt h1) (by
    rcases hk1 with rfl | h1
    · exact Ne.symm hb
    · intro e; subst e; exact hv h1))
theorem RSame.of_kept1 {W0 W W' : World} {B b : Nat} (h0 : RSame W0 b W) (h : Kept1 W B W') (hB : W0.heap.size ≤ B) : RSame W0 b W' :=
  ⟨h.1.trans h0.os, h.2.1.trans h0.tape, h.2.2.1.trans h0.output, Nat.le_trans h0.size h.2.2.2.1, fun k hk h1 => (h.2.2.2.2 k (Nat.lt_of_lt_of_le hk h0.size) (by omega)).trans (h0.block k hk h1)⟩
def NextRR (W : World) (b : Nat) (v : Value) (r : Rs) (C : Int → Int → Bool) (e : Ending) (w' : World) : Prop :=
  ∃ (p : Option Pk) (v' : Value) (r' : Rs), e = .returned (.tuple #[.agg (pkArr (p.getD Pk.zero)), .bool p.isSome]) ∧ Hid (RefAt w' b v' r') ∧ Hid (NextD r C p r') ∧ Hid (RSame W b w' ∧ Later W v v')
theorem nextR_fin {W w2 : World} {b B : Nat} {v v' : Value} {r : Rs} {l' : List Pk} {C : Int → Int → Bool} (p : Option Pk) (hn : RefAt w2 b v' ⟨l', r.now, r.last, r.cs⟩) (hS : RSame W b w2) (hL : Later W v v') (hB : B = W.heap.size) (hb : b ≠ B) (hv : v'.ownBlock ≠ some B) (hr : ∃ l2, NextR r.now C r.l p l2 ∧ l2.Sublist r.l ∧ l2 = l') :
    NextRR W b v r C (.returned (.tuple #[.agg (pkArr (p.getD Pk.zero)), .bool p.isSome])) (putB w2 B (p.getD Pk.zero)) := by
  obtain ⟨l2, h1, h2, rfl⟩ := hr
  exact ⟨p, v', _, rfl, Lib.hid (hn.kept (kept_putB w2 B _) (Ne.symm hb) hv), Lib.hid ⟨l2, h1, h2, rfl⟩, Lib.hid ⟨hS.of_kept1 (kept_putB w2 B _) (Nat.le_of_eq hB.symm), hL⟩⟩
theorem refNext_results : Try.f28.results = #[.cell 2 30, .tmp 3] := by kernel_rfl
theorem lenAt_ref {W : World} {b : Nat} {v : Value} {r : Rs} (h : RefAt W b v r) : lenAt W b = r.l.length := by
  obtain ⟨ao, cap, rfl⟩ := h.own.len
  unfold lenAt
  rw [h.c0]
/-- the loop over the packets -/
structure NxI (wr : World) (b B : Nat) (v' : Value) (l' : List Pk) (r : Rs) (W : World) (v : Value) (C : Int → Int → Bool) : Prop where
  at_ : RefAt wr b v' ⟨l', r.now, r.last, r.cs⟩
  vB : v'.ownBlock ≠ some B
  pk : PkAt wr B Pk.zero
  rel : ∀ p l2, NextR r.now C l' p l2 → l2.Sublist l' → NextR r.now C r.l p l2 ∧ l2.Sublist r.l
  same : RSame W b wr
  later : Later W v v'
  sub : l'.Sublist r.l
theorem NxI.drewN {wr : World} {b B : Nat} {v' : Value} {l' : List Pk} {r : Rs} {W : World} {v : Value} {C : Int → Int → Bool} (h : NxI wr b B v' l' r W v C) (n : Nat) : NxI (wr.drewN n) b B v' l' r W v C :=
  ⟨h.at_.same (fun _ _ => rfl), h.vB, h.pk, h.rel, ⟨h.same.os, h.same.tape, h.same.output, h.same.size, h.same.block⟩, h.later, h.sub⟩
set_option maxRecDepth 100000 in
set_option maxHeartbeats 8000000 in
theorem refNext_any (b : Nat) (v : Value) (r : Rs) (C : Int → Int → Bool) (hl : r.l.length ≤ 600) (hrise : r.l.Pairwise (fun p q => p.id < q.id)) (hg : ∀ q ∈ r.l, linkB q.src q.dst = true) (hC : ∀ q ∈ r.l, cutAt r.cs q.src q.dst = C (lo q.src q.dst) (hi q.src q.dst)) (W : World) (h : RefAt W b v r) :
    Calls Try.prog 28 #[.pointer (some ⟨b, 0, none⟩)] W (NextRR W b v r C) := by
  have hb0 := h.lt
  have hbW : b ≠ W.heap.size := by omega
  have hvW : v.ownBlock ≠ some W.heap.size := fun e => by have := h.own.lt e; omega
  replace h := Lib.hid h
  go_enter Try.func28, Try.ntmps28
  go_wp2_with fail
  have h0 := h.out.below ((Below.refl _ W).alloc (Nat.le_refl _) (.cells (pkArr Pk.zero) 30))
  have hS0 := RSame.of_below ((Below.refl _ W).alloc (Nat.le_refl _) (.cells (pkArr Pk.zero) 30)) b
  have hP0 : PkAt (W.alloc (.cells (pkArr Pk.zero) 30)) W.heap.size Pk.zero := heap_alloc_new W _
  unfold pkArr Pk.zero at h0 hS0 hP0
  obtain ⟨B, hB⟩ : ∃ B, B = W.heap.size := ⟨_, rfl⟩
  rw [← hB] at hbW hvW hP0 ⊢
  replace hB := Lib.hid hB
  have hst : Hid (NxI _ b B v r.l r W v C) := Lib.hid ⟨h0, hvW, hP0, fun _ _ h1 h2 => ⟨h1, h2⟩, hS0, Later.refl _ _, List.Sublist.refl _⟩
  replace hrise := Lib.hid hrise
  replace hg := Lib.hid hg
  replace hC := Lib.hid hC
  clear h h0 hS0 hP0 hvW
  go_loopw [3] (fun v3 wr => v3 = .bool false ∧ ∃ (v' : Value) (l' : List Pk), Hid (NxI wr b B v' l' r W v C)) (fun _ wr => lenAt wr b)
  case atStart => exact ⟨rfl, v, r.l, hst⟩
  case round =>
    clear hst
    obtain ⟨rfl, v', l', hI⟩ := hrel
    have hlen := Lib.hid (lenAt_ref hI.out.at_)
    have hl' : l'.length ≤ 600 := Nat.le_trans hI.out.sub.length_le hl
    obtain ⟨ao, cap, hv⟩ := hI.out.at_.own.len
    dsimp only at hv
    subst hv
    generalize wr = w0 at hI hlen ⊢
    go_wp2_with fail
    go_loopw [4, 5] (fun v4 v5 w2 => ∃ (j : Int) (i : Nat), v4 = .int .i64 j ∧ v5 = .int .i64 i ∧ i ≤ l'.length ∧ Hid (BestI r.now l' i j) ∧ Hid (∃ n, w2 = w0.drewN n)) (fun _ v5 _ => l'.length - (intOf v5).toNat)
    case atStart => exact ⟨-1, 0, rfl, rfl, Nat.zero_le _, Lib.hid (BestI.zero _ _), Lib.hid ⟨0, rfl⟩⟩
    case round =>
      obtain ⟨j, i, rfl, rfl, hi, hbest, hw2⟩ := hrel
      have hI2 := Lib.hid (show NxI wr b B (.slice ao l'.length cap) l' r W v C by obtain ⟨n, e⟩ := hw2.out; rw [e]; exact hI.out.drewN n)
      by_cases hlt : i < l'.length
      · have hl1 : (i : Int) < (l'.length : Int) := by omega
        have c0 := hI2.out.at_.c0
        have c1 := hI2.out.at_.c1
        dsimp only at c1
        obtain ⟨g, k1, hv1, hg1, -, -, -, -, a4⟩ := hI2.out.at_.own.cells hlt
        injection hv1 with e1 e2 e3
        subst e1 e3
        have hw3 := Lib.hid (fun n => show ∃ m, wr.drewN n = w0.drewN m from by obtain ⟨m, e⟩ := hw2.out; exact ⟨m + n, by rw [e, drewN_two]⟩)
        dsimp only at a4
        by_cases hd : (pat l' i).due ≤ (r.now : Int)
        · by_cases hj : j = -1
          · subst hj
            have hnext := Lib.hid (hbest.out.takes hd (.inl rfl))
            generalize (pat l' i).due = d1 at a4 hd
            go_wp2_with fail
            go_quiet (fail)
            go_wp2_with fail
            go_roundw
            case rel => exact ⟨i, i + 1, rfl, by go_num, by omega, by simpa using hnext, Lib.hid (hw3.out _)⟩
            case measure => simp [intOf] <;> omega
          · obtain ⟨m, rfl, hm⟩ : ∃ m : Nat, j = m ∧ m < i := by
              rcases hbest.out with ⟨e, _⟩ | ⟨m, e, h1, _⟩
              · exact absurd e hj
              · exact ⟨m, e, h1⟩
            obtain ⟨g2, k2, hv2, hg2, -, -, -, -, b4⟩ := hI2.out.at_.own.cells (i := m) (by dsimp only; omega)
            injection hv2 with e1 e2 e3
            injection e1 with e1
            injection e1 with e1
            subst e1 e3
            dsimp only at b4
            have hm0 : (0 : Int) ≤ (m : Int) := by omega
            have hm1 : (m : Int) < (l'.length : Int) := by omega
            by_cases hd2 : (pat l' i).due < (pat l' m).due
            · have hnext := Lib.hid (hbest.out.takes hd (.inr ⟨m, rfl, hd2⟩))
              generalize (pat l' i).due = d1 at a4 hd hd2
              generalize (pat l' m).due = d2 at b4 hd2
              clear hj hm
              go_wp2_with fail
              go_quiet (fail)
              go_wp2_with fail
              go_roundw
              case rel => exact ⟨i, i + 1, rfl, by go_num, by omega, by simpa using hnext, Lib.hid (hw3.out _)⟩
              case measure => simp [intOf] <;> omega
            · have hnext := Lib.hid (hbest.out.stays (by omega))
              have hd3 : (pat l' m).due ≤ (pat l' i).due := by omega
              generalize (pat l' i).due = d1 at a4 hd hd3
              generalize (pat l' m).due = d2 at b4 hd3
              clear hj hm hd2
              go_wp2_with fail
              go_quiet (fail)
              go_wp2_with fail
              go_roundw
              case rel => exact ⟨m, i + 1, rfl, by go_num, by omega, by simpa using hnext, Lib.hid (hw3.out _)⟩
              case measure => simp [intOf] <;> omega
        · have hnext := Lib.hid (hbest.out.late (by omega))
          have hd3 : (r.now : Int) < (pat l' i).due := by omega
          have hdb : decide ((pat l' i).due ≤ (r.now : Int)) = false := by simpa using hd
          clear hd
          generalize (pat l' i).due = d1 at a4 hd3 hdb
          go_wp2_with fail
          go_quiet (fail)
          go_wp2_with fail
          go_roundw
          case rel => exact ⟨j, i + 1, rfl, by go_num, by omega, by simpa using hnext, Lib.hid (hw3.out _)⟩
          case measure => simp [intOf] <;> omega
      · have hl1 : (l'.length : Int) ≤ (i : Int) := by omega
        obtain rfl : i = l'.length := by omega
        have c0 := hI2.out.at_.c0
        clear hI hw2
        by_cases hj : j = -1
        · subst hj
          have hnone := Lib.hid (hI2.out.rel none l' (.none l' hbest.out.none) (List.Sublist.refl _))
          obtain ⟨z0, z1, z2, z3, z4, zf⟩ := hI2.out.pk.cells
          have f0 := hI2.out.at_.free
          clear hbest
          go_wp2_with fail
          refine bodyPost_ret (next_res refNext_results (hI2.out.pk.putB Pk.zero) rfl rfl) rfl ?_
          exact nextR_fin none hI2.out.at_ hI2.out.same hI2.out.later hB.out hbW hI2.out.vB ⟨l', hnone.out.1, hnone.out.2, rfl⟩
        · obtain ⟨m, rfl⟩ : ∃ m : Nat, j = m := by
            rcases hbest.out with ⟨e, _⟩ | ⟨m, e, _⟩
            · exact absurd e hj
            · exact ⟨m, e⟩
          have hmin := Lib.hid (hbest.out.min (hrise.out.sublist hI2.out.sub))
          have hml := hmin.out.1
          obtain ⟨g, k1, hv1, hg1, a0, a1, a2, a3, a4⟩ := hI2.out.at_.own.cells (i := m) (by dsimp only; omega)
          injection hv1 with e1 e2 e3
          subst e1 e3
          dsimp only at a0 a1 a2 a3 a4
          have hm0 : (0 : Int) ≤ (m : Int) := by omega
          have hm1 : (m : Int) < (l'.length : Int) := by omega
          have hpm : pat l' m ∈ r.l := hI2.out.sub.subset (by rw [pat_lt hml]; exact List.getElem_mem hml)
          have hlk := hg.out _ hpm
          have hcu := hC.out _ hpm
          have hper := erase_perm hml
          have hsub : (l'.eraseIdx m).Sublist l' := List.eraseIdx_sublist ..
          have hdue := hmin.out.2.1
          have hle := hmin.out.2.2
          clear hbest hj hmin hpm
          generalize hP : pat l' m = p at a0 a1 a2 a3 a4 hlk hcu hper hdue hle
          clear hP
          replace hper := Lib.hid hper
          replace hsub := Lib.hid hsub
          replace hdue := Lib.hid hdue
          replace hle := Lib.hid hle
          have hbx : Below wr.heap.size wr (wr.alloc (.cells (pkArr p) 30)) := (Below.refl _ wr).alloc (Nat.le_refl _) _
          have hgs : g ≠ wr.heap.size := by omega
          have hat2 := hI2.out.at_.below hbx
          have hcall := Lib.hid (refOut_any b _ ⟨l', r.now, r.last, r.cs⟩ m hml (by dsimp only; omega) _ hat2)
          have hpB := hI2.out.pk.below hbx
          have hBlt : B < wr.heap.size := (Array.getElem?_eq_some_iff.1 (show wr.heap[B]? = _ from hI2.out.pk)).1
          have hpX : PkAt (wr.alloc (.cells (pkArr p) 30)) wr.heap.size p := heap_alloc_new wr _
          have hbX : b ≠ wr.heap.size := by have := hI2.out.at_.lt; omega
          have hbB : B ≠ b := Ne.symm hbW
          have hX := hat2.lt
          unfold pkArr at hcall hpB hpX hbx hat2
          replace hbx := Lib.hid hbx
          replace hpB := Lib.hid hpB
          replace hpX := Lib.hid hpX
          clear hat2
          go_wp2_with fail
          refine hcall.out.mono ?_
          rintro e w3 ⟨rfl, v3, h3, h4⟩
          have hbs := h4.out.1.block
          have hp3 : PkAt w3 B Pk.zero := (hbs B (Nat.lt_of_lt_of_le hBlt hbx.out.size) hbB).trans hpB.out
          have hpX3 : PkAt w3 wr.heap.size p := (hbs wr.heap.size (by simp) (Ne.symm hbX)).trans hpX.out
          have hS3 : RSame W b w3 := (hI2.out.same.trans (RSame.of_below hbx.out b)).trans h4.out.1
          have hL3 : Later W v v3 := hI2.out.later.trans (fun k hk => (h4.out.2 k hk).imp id (Nat.le_trans hbx.out.size)) hI2.out.same.size
          have hv3 : v3.ownBlock ≠ some B := fun e => by
            rcases h4.out.2 B e with q | q
            · exact hI2.out.vB q
            · have := hbx.out.size; omega
          have hrel := Lib.hid hI2.out.rel
          have hsub2 := Lib.hid hI2.out.sub
          obtain ⟨-, t1, t2, -, -, -⟩ := hpX3.cells
          have cc := h3.out.cc (cutI p.src p.dst) (cutI_lt hlk)
          have hcc : cutAt r.cs p.src p.dst = r.cs.getD (cutI p.src p.dst) false := rfl
          dsimp only at cc
          rw [← hcc, hcu] at cc
          have hk1 : (0 : Int) ≤ 6 * p.src + p.dst := by unfold linkB at hlk; simp only [decide_eq_true_eq] at hlk; omega
          have hk2 : 6 * p.src + p.dst < 36 := by unfold linkB at hlk; simp only [decide_eq_true_eq] at hlk; omega
          have hw1 : IntKind.i64.wrap (6 * p.src) = 6 * p.src := IntWalk.i64_in _ (by unfold linkB at hlk; simp only [decide_eq_true_eq] at hlk; omega)
          have hw2 : IntKind.i64.wrap (6 * p.src + p.dst) = 6 * p.src + p.dst := IntWalk.i64_in _ (by omega)
          unfold cutI at cc
          have hI3 : Hid (RefAt w3 b v3 ⟨l'.eraseIdx m, r.now, r.last, r.cs⟩ ∧ RSame W b w3 ∧ Later W v v3 ∧ v3.ownBlock ≠ some B ∧ PkAt w3 B Pk.zero ∧ PkAt w3 wr.heap.size p) := Lib.hid ⟨h3.out, hS3, hL3, hv3, hp3, hpX3⟩
          have hlen3 : Hid ((l'.eraseIdx m).length < l'.length) := Lib.hid (by rw [List.length_eraseIdx_of_lt hml]; omega)
          have hXx : wr.heap.size = wr.heap.size := rfl
          clear hbs hp3 hpX3 hS3 hL3 hv3 h3 h4 hcall hpB hpX hbx hcc hlk hcu hXx a0 a1 a2 a3 a4 c0 hI2 hX
          generalize hCq : C (lo p.src p.dst) (Go.Proofs.Ytjopbglimjhefaa.hi p.src p.dst) = cq at cc
          replace hCq := Lib.hid hCq
          generalize wr.heap.size = X at hI3 t1 t2 hgs hBlt hbX ⊢
          clear hgs hg1
          cases cq
          · go_wp2_with fail
            go_quiet (fail)
            have hI4 : Hid (RefAt (w3.drewN nq) b v3 ⟨l'.eraseIdx m, r.now, r.last, r.cs⟩ ∧ RSame W b (w3.drewN nq) ∧ Later W v v3 ∧ v3.ownBlock ≠ some B ∧ PkAt (w3.drewN nq) B Pk.zero ∧ PkAt (w3.drewN nq) X p) := Lib.hid (by
              obtain ⟨q1, q2, q3, q4, q5, q6⟩ := hI3.out
              exact ⟨q1.same (fun _ _ => rfl), ⟨q2.os, q2.tape, q2.output, q2.size, q2.block⟩, q3, q4, q5, q6⟩)
            obtain ⟨z0, z1, z2, z3, z4, zf⟩ := hI4.out.2.2.2.2.1.cells
            obtain ⟨y0, y1, y2, y3, y4, -⟩ := hI4.out.2.2.2.2.2.cells
            clear hI3 t1 t2 cc
            generalize w3.drewN nq = w5 at hI4 z0 z1 z2 z3 z4 zf y0 y1 y2 y3 y4 ⊢
            go_wp2_with fail
            obtain ⟨q1, q2, q3, q4, q5, q6⟩ := hI4.out
            refine bodyPost_ret (next_res refNext_results (q5.putB p) rfl rfl) rfl ?_
            have hn := hrel.out (some p) (l'.eraseIdx m) (.take p l' _ hper.out hle.out hdue.out hCq.out) hsub.out
            exact nextR_fin (some p) q1 q2 q3 hB.out hbW q4 ⟨_, hn.1, hn.2, rfl⟩
          · go_wp2_with fail
            go_quiet (fail)
            have hI4 : Hid (RefAt (w3.drewN nq) b v3 ⟨l'.eraseIdx m, r.now, r.last, r.cs⟩ ∧ RSame W b (w3.drewN nq) ∧ Later W v v3 ∧ v3.ownBlock ≠ some B ∧ PkAt (w3.drewN nq) B Pk.zero) := Lib.hid (by
              obtain ⟨q1, q2, q3, q4, q5, q6⟩ := hI3.out
              exact ⟨q1.same (fun _ _ => rfl), ⟨q2.os, q2.tape, q2.output, q2.size, q2.block⟩, q3, q4, q5⟩)
            clear hI3 t1 t2 cc
            generalize w3.drewN nq = w5 at hI4 ⊢
            go_wp2_with fail
            go_roundw
            case rel =>
              obtain ⟨q1, q2, q3, q4, q5⟩ := hI4.out
              exact ⟨rfl, v3, l'.eraseIdx m, Lib.hid ⟨q1, q4, q5, fun p2 l2 h1 h2 => hrel.out p2 l2 (.drop p l' (l'.eraseIdx m) p2 l2 hper.out hle.out hdue.out hCq.out h1) (h2.trans hsub.out), q2, q3, hsub.out.trans hsub2.out⟩⟩
            case measure =>
              have e1 := lenAt_ref hI4.out.1
              have e2 := hlen.out
              have e3 := hlen3.out
              dsimp only at e1 e2
              omega
end Go.Proofs.Ytjopbglimjhefaa
