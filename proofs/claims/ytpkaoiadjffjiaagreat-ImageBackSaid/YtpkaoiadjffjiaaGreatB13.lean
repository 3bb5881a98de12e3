/- mail.Same's parts, asked about any two: the exact answer. (written by tools/gen_ImL.py) Numbers, texts, lists as bytes, and what a reader makes of bytes: plain. pack.Num, pack.Text, image's nums: walked. -/
import Derived.Test.YtpkaoiadjffjiaaGreatB07
import Derived.Test.YtpkaoiadjffjiaaGreatB12
import Derived.Test.YtpkaoiadjffjiaaGreatB09
import Derived.Laws.StructEq
import Derived.Test.YtpkaoiadjffjiaaGreatB01
import Derived.Test.YtpkaoiadjffjiaaGreatB02
import Derived.Laws.Bits64b
import Derived.Laws.BitsAllLaws
import Derived.Laws.Bits128
namespace Go.Proofs.YtpkaoiadjffjiaaGreat
set_option linter.unusedSimpArgs false
open Go.RowKit
attribute [local go_sem ↓] Go.wp_at_zero Go.wp_at_succ

theorem yn_b {P : Prop} {W : World} {B : Bool} {w' : World} (h : B = true ↔ P) (hb : Hid (Below W.heap.size W w')) : YesNo P W (.returned (.bool B)) w' := ⟨B, rfl, Lib.hid h, hb⟩
theorem yn_f {P : Prop} {W : World} {w' : World} (h : ¬ P) (hb : Hid (Below W.heap.size W w')) : YesNo P W (.returned (.bool false)) w' := ⟨false, rfl, Lib.hid ⟨fun h2 => (by cases h2), fun h2 => absurd h2 h⟩, hb⟩
theorem yn_t {P : Prop} {W : World} {w' : World} (h : P) (hb : Hid (Below W.heap.size W w')) : YesNo P W (.returned (.bool true)) w' := ⟨true, rfl, Lib.hid ⟨fun _ => h, fun _ => rfl⟩, hb⟩
theorem str_ne {a b : ByteArray} (h : ¬ a = b) : (a.toList == b.toList) = false := by
  rw [beq_eq_false_iff_ne]
  intro e
  exact h (toList_inj_ e)
set_option maxRecDepth 100000 in
set_option maxHeartbeats 16000000 in
theorem eqLt_any {W : World} (X Y : LtV) (hX : FlIn W X.v X.x.flags) (hY : FlIn W Y.v Y.x.flags) (hl : X.x.flags.length * 16 ≤ 140737488355328) (hl2 : Y.x.flags.length * 16 ≤ 140737488355328) :
    Calls Tryz.prog 36 #[.agg (ltCells X).toArray, .agg (ltCells Y).toArray] W (YesNo (X.x = Y.x) W) := by
  obtain ⟨⟨u, f, m, h, z⟩, xa, xc⟩ := X
  obtain ⟨⟨u2, f2, m2, h2, z2⟩, ya, yc⟩ := Y
  dsimp only at hl hl2 ⊢
  suffices hsuf : ∀ P : Prop, Hid (P ↔ ((⟨u, f, m, h, z⟩ : Lt) = ⟨u2, f2, m2, h2, z2⟩)) → Calls Tryz.prog 36 #[.agg (ltCells ⟨⟨u, f, m, h, z⟩, xa, xc⟩).toArray, .agg (ltCells ⟨⟨u2, f2, m2, h2, z2⟩, ya, yc⟩).toArray] W (YesNo P W) from hsuf _ (Lib.hid Iff.rfl)
  intro P hP
  have hs := Lib.hid (fun w (hb : Below W.heap.size W w) => equal_any _ _ f f2 w (Rd.below hX hb) (Rd.below hY hb) hl hl2)
  unfold ltCells LtV.v
  unfold LtV.v at hs
  dsimp only at hs ⊢
  have hbW := Lib.hid (below2 W (.cells #[.int .u64 u, .slice xa f.length xc, .int .u64 m, .string h, .int .u64 z] 45) (.cells #[.int .u64 u2, .slice ya f2.length yc, .int .u64 m2, .string h2, .int .u64 z2] 45))
  by_cases t0 : u = u2
  case neg =>
    have n0 : ((u : Int) == (u2 : Int)) = false := by simp; omega
    have hne : Hid (¬ P) := Lib.hid (fun p => t0 (by have e := hP.out.1 p; injection e))
    clear t0 hs hP
    go_enter Tryz.func36, Tryz.ntmps36
    go_wp2_with fail
    go_ret
    exact yn_f hne.out hbW
  subst t0
  have n0 : ((u : Int) == (u : Int)) = true := by simp
  by_cases t1 : m = m2
  case neg =>
    have n1 : ((m : Int) == (m2 : Int)) = false := by simp; omega
    have hne : Hid (¬ P) := Lib.hid (fun p => t1 (by have e := hP.out.1 p; injection e))
    clear t1 hs hP
    go_enter Tryz.func36, Tryz.ntmps36
    go_wp2_with fail
    go_ret
    exact yn_f hne.out hbW
  subst t1
  have n1 : ((m : Int) == (m : Int)) = true := by simp
  by_cases t2 : h = h2
  case neg =>
    have n2 : (h.toList == h2.toList) = false := str_ne t2
    have hne : Hid (¬ P) := Lib.hid (fun p => t2 (by have e := hP.out.1 p; injection e))
    clear t2 hs hP
    go_enter Tryz.func36, Tryz.ntmps36
    go_wp2_with fail
    go_ret
    exact yn_f hne.out hbW
  subst t2
  have n2 : (h.toList == h.toList) = true := by simp
  by_cases t3 : z = z2
  case neg =>
    have n3 : ((z : Int) == (z2 : Int)) = false := by simp; omega
    have hne : Hid (¬ P) := Lib.hid (fun p => t3 (by have e := hP.out.1 p; injection e))
    clear t3 hs hP
    go_enter Tryz.func36, Tryz.ntmps36
    go_wp2_with fail
    go_ret
    exact yn_f hne.out hbW
  subst t3
  have n3 : ((z : Int) == (z : Int)) = true := by simp
  go_enter Tryz.func36, Tryz.ntmps36
  go_wp2_with (go_at_call 37; refine (hs.out _ (below2 _ _ _)).mono ?_; rintro e w3 ⟨rfl, hb3⟩)
  go_ret
  exact yn_b (by rw [decide_eq_true_eq, hP.out]; exact ⟨fun e => (by rw [e]), fun e => (by injection e)⟩) (Lib.hid ((below2 _ _ _).trans (hb3.out.mono (below2 _ _ _).size)))
set_option maxRecDepth 100000 in
set_option maxHeartbeats 16000000 in
theorem eqLts_any {W : World} (rows rows2 : List LtV) (xa ya : Option Addr) (xc yc : Nat) (hX : LtsIn W (.slice xa rows.length xc) rows) (hY : LtsIn W (.slice ya rows2.length yc) rows2) (hl : rows.length ≤ 1000000) (hfl : ∀ y ∈ rows, y.x.flags.length * 16 ≤ 140737488355328) (hfl2 : ∀ y ∈ rows2, y.x.flags.length * 16 ≤ 140737488355328) :
    Calls Tryz.prog 39 #[.slice xa rows.length xc, .slice ya rows2.length yc, .func (.func 36) #[] #[]] W (YesNo (rows.map LtV.x = rows2.map LtV.x) W) := by
  have hX0 : Hid (∀ w', Below W.heap.size W w' → LtsIn w' (.slice xa rows.length xc) rows) := Lib.hid (fun w' h => hX.below h)
  have hY0 : Hid (∀ w', Below W.heap.size W w' → LtsIn w' (.slice ya rows2.length yc) rows2) := Lib.hid (fun w' h => hY.below h)
  by_cases hlen : rows2.length = rows.length
  case neg =>
    have hne4 : ((rows.length : Int) != (rows2.length : Int)) = true := by simp; omega
    have hne : Hid (¬ rows.map LtV.x = rows2.map LtV.x) := Lib.hid (fun e => hlen (by have := congrArg List.length e; simpa using this.symm))
    clear hX hY hlen
    go_enter Tryz.func39, Tryz.ntmps39
    go_wp2_with fail
    go_ret
    exact yn_f hne.out (Lib.hid (Below.refl _ _))
  rw [hlen]
  replace hlen := Lib.hid hlen
  replace hfl := Lib.hid hfl
  replace hfl2 := Lib.hid hfl2
  have hne4 : ((rows.length : Int) != (rows.length : Int)) = false := by simp
  clear hX hY
  go_enter Tryz.func39, Tryz.ntmps39
  go_wp2_with fail
  clear hne4
  go_loopw [17] (fun v17 wr => ∃ j : Nat, v17 = .int .i64 j ∧ j ≤ rows.length ∧ Hid (∀ k, k < j → (rows.map LtV.x)[k]? = (rows2.map LtV.x)[k]?) ∧ Hid (Below W.heap.size W wr)) (fun v17 _ => rows.length - (intOf v17).toNat)
  case atStart => exact ⟨0, rfl, Nat.zero_le _, Lib.hid (fun k h => absurd h (by omega)), Lib.hid (Below.refl _ _)⟩
  case round =>
    obtain ⟨j, rfl, hj, hsm, hb0⟩ := hrel
    by_cases hlt2 : j < rows.length
    · have hlt3 : j < rows2.length := by rw [hlen.out]; exact hlt2
      have hinX := hX0.out wr hb0.out
      have hinY := hY0.out wr hb0.out
      obtain ⟨b, bo, cap, hv, hcX⟩ := hinX.cells_at hlt2
      injection hv with hv1 hv2 hv3
      subst hv1 hv3
      obtain ⟨b2, bo2, cap2, hv, hcY⟩ := hinY.cells_at (show j < rows2.length from hlt3)
      injection hv with hv1 hv2 hv3
      subst hv1 hv3
      have hfX := hinX.2 _ (List.getElem_mem hlt2)
      have hfY := hinY.2 _ (List.getElem_mem hlt3)
      have hfl1 := hfl.out _ (List.getElem_mem hlt2)
      have hfl3 := hfl2.out _ (List.getElem_mem hlt3)
      have hstep : Hid (∀ (P : Prop), (P ↔ LtV.x rows[j] = LtV.x rows2[j]) → (P → ∀ k, k < j + 1 → (rows.map LtV.x)[k]? = (rows2.map LtV.x)[k]?) ∧ (¬ P → ¬ rows.map LtV.x = rows2.map LtV.x)) := Lib.hid (fun P hP => ⟨fun hp k hk => by
        by_cases e : k = j
        · subst e
          rw [List.getElem?_map, List.getElem?_map, List.getElem?_eq_getElem hlt2, List.getElem?_eq_getElem hlt3, Option.map_some, Option.map_some, hP.1 hp]
        · exact hsm.out k (by omega), fun hp e => hp (hP.2 (by
        have h1 := congrArg (fun l => l[j]?) e
        simpa [List.getElem?_map, List.getElem?_eq_getElem hlt2, List.getElem?_eq_getElem hlt3] using h1))⟩)
      obtain ⟨z, hz'⟩ : ∃ z, rows[j] = z := ⟨_, rfl⟩
      obtain ⟨y, hy'⟩ : ∃ y, rows2[j] = y := ⟨_, rfl⟩
      rw [hz'] at hcX hfX hfl1
      rw [hy'] at hcY hfY hfl3
      rw [hz', hy'] at hstep
      have hcall := Lib.hid (fun w' (hb : Below wr.heap.size wr w') => eqLt_any (W := w') z y (hfX.below hb) (hfY.below hb) hfl1 hfl3)
      unfold ltCells LtV.v at hcall
      try dsimp only at hcall
      have hi0 : (0 : Int) ≤ (j : Int) := by omega
      have hi1 : (j : Int) < (rows.length : Int) := by omega
      replace hcX : ∀ W', Below wr.heap.size wr W' → W'.cell? ⟨b, bo + j * 5, none⟩ = some (.int .u64 z.x.uid) ∧ W'.cell? ⟨b, bo + j * 5 + 1, none⟩ = some (.slice z.a z.x.flags.length z.c) ∧ W'.cell? ⟨b, bo + j * 5 + 2, none⟩ = some (.int .u64 z.x.mod) ∧ W'.cell? ⟨b, bo + j * 5 + 3, none⟩ = some (.string z.x.hash) ∧ W'.cell? ⟨b, bo + j * 5 + 4, none⟩ = some (.int .u64 z.x.size) := fun W' h => hcX W' h
      obtain ⟨c0, c1, c2, c3, c4⟩ := hcX wr (Below.refl _ _)
      replace hcY : Hid (∀ W', Below wr.heap.size wr W' → W'.cell? ⟨b2, bo2 + j * 5, none⟩ = some (.int .u64 y.x.uid) ∧ W'.cell? ⟨b2, bo2 + j * 5 + 1, none⟩ = some (.slice y.a y.x.flags.length y.c) ∧ W'.cell? ⟨b2, bo2 + j * 5 + 2, none⟩ = some (.int .u64 y.x.mod) ∧ W'.cell? ⟨b2, bo2 + j * 5 + 3, none⟩ = some (.string y.x.hash) ∧ W'.cell? ⟨b2, bo2 + j * 5 + 4, none⟩ = some (.int .u64 y.x.size)) := Lib.hid (fun W' h => hcY W' h)
      clear hinX hinY hfX hfY hfl1 hfl3 hz' hy' hlt3 hcX hsm
      go_upto_region 6 with fail
      have hz1 := (Zoo.nil wr).newBox [.int .u64 z.x.uid, .slice z.a z.x.flags.length z.c, .int .u64 z.x.mod, .string z.x.hash, .int .u64 z.x.size].toArray 45
      clear c0 c1 c2 c3 c4
      obtain ⟨B1, hB1⟩ : ∃ B1, wr.heap.size = B1 := ⟨_, rfl⟩
      have hlt1 : B1 < (wr.alloc (.cells [.int .u64 z.x.uid, .slice z.a z.x.flags.length z.c, .int .u64 z.x.mod, .string z.x.hash, .int .u64 z.x.size].toArray 45)).heap.size := by rw [← hB1]; simp
      obtain ⟨c0, c1, c2, c3, c4⟩ := hcY.out _ hz1.bel
      rw [hB1] at hz1 ⊢
      generalize (wr.alloc (.cells #[.int .u64 z.x.uid, .slice z.a z.x.flags.length z.c, .int .u64 z.x.mod, .string z.x.hash, .int .u64 z.x.size] 45)) = W1 at *
      go_upto_region 7 with fail
      have hz2 := hz1.newBox [.int .u64 y.x.uid, .slice y.a y.x.flags.length y.c, .int .u64 y.x.mod, .string y.x.hash, .int .u64 y.x.size].toArray 45
      clear c0 c1 c2 c3 c4 hz1
      obtain ⟨B2, hB2⟩ : ∃ B2, W1.heap.size = B2 := ⟨_, rfl⟩
      rw [hB2] at hz2 hlt1 ⊢
      generalize (W1.alloc (.cells #[.int .u64 y.x.uid, .slice y.a y.x.flags.length y.c, .int .u64 y.x.mod, .string y.x.hash, .int .u64 y.x.size] 45)) = W2 at *
      obtain ⟨hb1, -⟩ := hz2.box 1 rfl
      have c0 : W2.cell? ⟨B1, 0, none⟩ = some (.int .u64 z.x.uid) := box_cell hb1 0
      have c1 : W2.cell? ⟨B1, 1, none⟩ = some (.slice z.a z.x.flags.length z.c) := box_cell hb1 1
      have c2 : W2.cell? ⟨B1, 2, none⟩ = some (.int .u64 z.x.mod) := box_cell hb1 2
      have c3 : W2.cell? ⟨B1, 3, none⟩ = some (.string z.x.hash) := box_cell hb1 3
      have c4 : W2.cell? ⟨B1, 4, none⟩ = some (.int .u64 z.x.size) := box_cell hb1 4
      obtain ⟨hb1, -⟩ := hz2.box 0 rfl
      have d0 : W2.cell? ⟨B2, 0, none⟩ = some (.int .u64 y.x.uid) := box_cell hb1 0
      have d1 : W2.cell? ⟨B2, 1, none⟩ = some (.slice y.a y.x.flags.length y.c) := box_cell hb1 1
      have d2 : W2.cell? ⟨B2, 2, none⟩ = some (.int .u64 y.x.mod) := box_cell hb1 2
      have d3 : W2.cell? ⟨B2, 3, none⟩ = some (.string y.x.hash) := box_cell hb1 3
      have d4 : W2.cell? ⟨B2, 4, none⟩ = some (.int .u64 y.x.size) := box_cell hb1 4
      have hbel2 := Lib.hid hz2.bel
      replace hcall := Lib.hid (hcall.out W2 hz2.bel)
      clear hb1 hz2 hB1 hB2 hcY
      go_wp2_with fail
      refine hcall.out.mono ?_
      rintro e w5 ⟨B, rfl, hB, hb5⟩
      have hBl := Lib.hid (hb0.out.trans ((hbel2.out.trans (hb5.out.mono hbel2.out.size)).mono hb0.out.size))
      clear c0 c1 c2 c3 c4 d0 d1 d2 d3 d4 hcall hb5 hbel2
      have hst := hstep.out _ hB.out
      cases B with
      | false =>
        have hne := Lib.hid (hst.2 (by decide))
        clear hst hstep hB
        go_wp2_with fail
        go_ret
        exact yn_f hne.out hBl
      | true =>
        have hsm2 := Lib.hid (hst.1 rfl)
        clear hst hstep hB
        go_wp2_with fail
        go_roundw
        case rel => exact ⟨j + 1, by go_num, by omega, hsm2, hBl⟩
        case measure => simp [intOf] <;> omega
    · obtain rfl : j = rows.length := by omega
      have he : Hid (rows.map LtV.x = rows2.map LtV.x) := Lib.hid (by
        apply List.ext_getElem?
        intro k
        by_cases hk : k < rows.length
        · exact hsm.out k hk
        · rw [List.getElem?_eq_none (by rw [List.length_map]; omega), List.getElem?_eq_none (by rw [List.length_map, hlen.out]; omega)])
      clear hsm
      go_wp2_with fail
      go_ret
      exact yn_t he.out hb0
set_option maxRecDepth 100000 in
set_option maxHeartbeats 16000000 in
theorem eqBx_any {W : World} (X Y : BxV) (A : Nat) (hX : LtsIn W X.v X.rows) (hY : LtsIn W Y.v Y.rows) (hl : X.rows.length ≤ 1000000) (hfl : ∀ y ∈ X.rows, y.x.flags.length * 16 ≤ 140737488355328) (hfl2 : ∀ y ∈ Y.rows, y.x.flags.length * 16 ≤ 140737488355328) (hA : W.cell? ⟨A, 0, none⟩ = some (.func (.func 36) #[] #[])) :
    Calls Tryz.prog 38 #[bxAgg X, bxAgg Y, .pointer (some ⟨A, 0, none⟩)] W (YesNo (X.b = Y.b) W) := by
  obtain ⟨nm, va, nx, hg, rows, xa, xc⟩ := X
  obtain ⟨nm2, va2, nx2, hg2, rows2, ya, yc⟩ := Y
  unfold BxV.b
  dsimp only at hl hfl hfl2 ⊢
  suffices hsuf : ∀ P : Prop, Hid (P ↔ ((⟨nm, va, nx, hg, rows.map LtV.x⟩ : Bx) = ⟨nm2, va2, nx2, hg2, rows2.map LtV.x⟩)) → Calls Tryz.prog 38 #[bxAgg ⟨nm, va, nx, hg, rows, xa, xc⟩, bxAgg ⟨nm2, va2, nx2, hg2, rows2, ya, yc⟩, .pointer (some ⟨A, 0, none⟩)] W (YesNo P W) from hsuf _ (Lib.hid Iff.rfl)
  intro P hP
  have hs := Lib.hid (fun w (hb : Below W.heap.size W w) => eqLts_any rows rows2 xa ya xc yc (hX.below hb) (hY.below hb) hl hfl hfl2)
  have hlt := World.block_lt_of_cell? _ _ hA
  have hA2 : Hid (∀ w, Below W.heap.size W w → w.cell? ⟨A, 0, none⟩ = some (.func (.func 36) #[] #[])) := Lib.hid (fun w hb => (hb.cell (p := ⟨A, 0, none⟩) hlt).trans hA)
  show Calls Tryz.prog 38 #[.agg #[.string nm, .int .u64 va, .int .u64 nx, .int .u64 hg, .slice xa rows.length xc], .agg #[.string nm2, .int .u64 va2, .int .u64 nx2, .int .u64 hg2, .slice ya rows2.length yc], .pointer (some ⟨A, 0, none⟩)] W _
  have hz2 := ((Zoo.nil W).newBox [.string nm, .int .u64 va, .int .u64 nx, .int .u64 hg, .slice xa rows.length xc].toArray 40).newBox [.string nm2, .int .u64 va2, .int .u64 nx2, .int .u64 hg2, .slice ya rows2.length yc].toArray 40
  have hlt : W.heap.size < (W.alloc (.cells [.string nm, .int .u64 va, .int .u64 nx, .int .u64 hg, .slice xa rows.length xc].toArray 40)).heap.size := by simp
  generalize hMB : W.heap.size = MB at hz2 hlt
  generalize hRB : (W.alloc (.cells [.string nm, .int .u64 va, .int .u64 nx, .int .u64 hg, .slice xa rows.length xc].toArray 40)).heap.size = RB at hz2 hlt
  generalize hWb : ((W.alloc (.cells [.string nm, .int .u64 va, .int .u64 nx, .int .u64 hg, .slice xa rows.length xc].toArray 40)).alloc (.cells [.string nm2, .int .u64 va2, .int .u64 nx2, .int .u64 hg2, .slice ya rows2.length yc].toArray 40)) = Wb at hz2
  obtain ⟨hbX, -⟩ := hz2.box 1 rfl
  have x0 : Wb.cell? ⟨MB, 0, none⟩ = some (.string nm) := box_cell hbX 0
  have x1 : Wb.cell? ⟨MB, 1, none⟩ = some (.int .u64 va) := box_cell hbX 1
  have x2 : Wb.cell? ⟨MB, 2, none⟩ = some (.int .u64 nx) := box_cell hbX 2
  have x3 : Wb.cell? ⟨MB, 3, none⟩ = some (.int .u64 hg) := box_cell hbX 3
  have x4 : Wb.cell? ⟨MB, 4, none⟩ = some (.slice xa rows.length xc) := box_cell hbX 4
  obtain ⟨hbY, -⟩ := hz2.box 0 rfl
  have y0 : Wb.cell? ⟨RB, 0, none⟩ = some (.string nm2) := box_cell hbY 0
  have y1 : Wb.cell? ⟨RB, 1, none⟩ = some (.int .u64 va2) := box_cell hbY 1
  have y2 : Wb.cell? ⟨RB, 2, none⟩ = some (.int .u64 nx2) := box_cell hbY 2
  have y3 : Wb.cell? ⟨RB, 3, none⟩ = some (.int .u64 hg2) := box_cell hbY 3
  have y4 : Wb.cell? ⟨RB, 4, none⟩ = some (.slice ya rows2.length yc) := box_cell hbY 4
  have hbel := Lib.hid hz2.bel
  have a0 := hA2.out _ hz2.bel
  clear hbX hbY hX hY hA hA2 hz2
  by_cases t0 : nm = nm2
  case neg =>
    have n0 : (nm.toList == nm2.toList) = false := str_ne t0
    have hne : Hid (¬ P) := Lib.hid (fun p => t0 (by have e := hP.out.1 p; injection e))
    clear t0 hs hP
    go_enter Tryz.func38, Tryz.ntmps38
    go_upto_region 1 with fail
    clear hWb hRB
    go_wp2_with fail
    go_ret
    exact yn_f hne.out (Lib.hid (by first | exact hbel.out | (rw [← hMB]; exact hbel.out)))
  have n0 : (nm.toList == nm2.toList) = true := by rw [t0]; simp
  by_cases t1 : va = va2
  case neg =>
    have n1 : ((va : Int) == (va2 : Int)) = false := by simp; omega
    have hne : Hid (¬ P) := Lib.hid (fun p => t1 (by have e := hP.out.1 p; injection e))
    clear t0 t1 hs hP
    go_enter Tryz.func38, Tryz.ntmps38
    go_upto_region 1 with fail
    clear hWb hRB
    go_wp2_with fail
    go_ret
    exact yn_f hne.out (Lib.hid (by first | exact hbel.out | (rw [← hMB]; exact hbel.out)))
  have n1 : ((va : Int) == (va2 : Int)) = true := by rw [t1]; simp
  by_cases t2 : nx = nx2
  case neg =>
    have n2 : ((nx : Int) == (nx2 : Int)) = false := by simp; omega
    have hne : Hid (¬ P) := Lib.hid (fun p => t2 (by have e := hP.out.1 p; injection e))
    clear t0 t1 t2 hs hP
    go_enter Tryz.func38, Tryz.ntmps38
    go_upto_region 1 with fail
    clear hWb hRB
    go_wp2_with fail
    go_ret
    exact yn_f hne.out (Lib.hid (by first | exact hbel.out | (rw [← hMB]; exact hbel.out)))
  have n2 : ((nx : Int) == (nx2 : Int)) = true := by rw [t2]; simp
  by_cases t3 : hg = hg2
  case neg =>
    have n3 : ((hg : Int) == (hg2 : Int)) = false := by simp; omega
    have hne : Hid (¬ P) := Lib.hid (fun p => t3 (by have e := hP.out.1 p; injection e))
    clear t0 t1 t2 t3 hs hP
    go_enter Tryz.func38, Tryz.ntmps38
    go_upto_region 1 with fail
    clear hWb hRB
    go_wp2_with fail
    go_ret
    exact yn_f hne.out (Lib.hid (by first | exact hbel.out | (rw [← hMB]; exact hbel.out)))
  have n3 : ((hg : Int) == (hg2 : Int)) = true := by rw [t3]; simp
  have hiff : Hid (rows.map LtV.x = rows2.map LtV.x ↔ P) := Lib.hid (by rw [hP.out]; exact ⟨fun e => (by rw [t0, t1, t2, t3, e]), fun e => (by injection e)⟩)
  clear t0 t1 t2 t3 hP
  go_enter Tryz.func38, Tryz.ntmps38
  go_upto_region 1 with fail
  clear hWb hRB
  go_wp2_with (go_at_call 39; refine (hs.out _ hbel.out).mono ?_; rintro e w3 ⟨B, rfl, hB, hb3⟩)
  go_ret
  exact yn_b (hB.out.trans hiff.out) (Lib.hid (by first | exact hbel.out.trans (hb3.out.mono hbel.out.size) | (rw [← hMB]; exact hbel.out.trans (hb3.out.mono hbel.out.size))))
set_option maxRecDepth 100000 in
set_option maxHeartbeats 16000000 in
theorem eqBxs_any {W : World} (rows rows2 : List BxV) (A : Nat) (xa ya : Option Addr) (xc yc : Nat) (hX : BxsIn W (.slice xa rows.length xc) rows) (hY : BxsIn W (.slice ya rows2.length yc) rows2) (hl : rows.length ≤ 1000000) (hfl : ∀ y ∈ rows, y.rows.length ≤ 1000000 ∧ ∀ x ∈ y.rows, x.x.flags.length * 16 ≤ 140737488355328) (hfl2 : ∀ y ∈ rows2, y.rows.length ≤ 1000000 ∧ ∀ x ∈ y.rows, x.x.flags.length * 16 ≤ 140737488355328) (hA : W.cell? ⟨A, 0, none⟩ = some (.func (.func 36) #[] #[])) :
    Calls Tryz.prog 42 #[.slice xa rows.length xc, .slice ya rows2.length yc, .func (.func 38) #[] #[.pointer (some ⟨A, 0, none⟩)]] W (YesNo (rows.map BxV.b = rows2.map BxV.b) W) := by
  have hX0 : Hid (∀ w', Below W.heap.size W w' → BxsIn w' (.slice xa rows.length xc) rows) := Lib.hid (fun w' h => hX.below h)
  have hY0 : Hid (∀ w', Below W.heap.size W w' → BxsIn w' (.slice ya rows2.length yc) rows2) := Lib.hid (fun w' h => hY.below h)
  have hltA := World.block_lt_of_cell? _ _ hA
  have hA2 : Hid (∀ w, Below W.heap.size W w → w.cell? ⟨A, 0, none⟩ = some (.func (.func 36) #[] #[])) := Lib.hid (fun w hb => (hb.cell (p := ⟨A, 0, none⟩) hltA).trans hA)
  clear hA hltA
  by_cases hlen : rows2.length = rows.length
  case neg =>
    have hne4 : ((rows.length : Int) != (rows2.length : Int)) = true := by simp; omega
    have hne : Hid (¬ rows.map BxV.b = rows2.map BxV.b) := Lib.hid (fun e => hlen (by have := congrArg List.length e; simpa using this.symm))
    clear hX hY hlen
    go_enter Tryz.func42, Tryz.ntmps42
    go_wp2_with fail
    go_ret
    exact yn_f hne.out (Lib.hid (Below.refl _ _))
  rw [hlen]
  replace hlen := Lib.hid hlen
  replace hfl := Lib.hid hfl
  replace hfl2 := Lib.hid hfl2
  have hne4 : ((rows.length : Int) != (rows.length : Int)) = false := by simp
  clear hX hY
  go_enter Tryz.func42, Tryz.ntmps42
  go_wp2_with fail
  clear hne4
  go_loopw [17] (fun v17 wr => ∃ j : Nat, v17 = .int .i64 j ∧ j ≤ rows.length ∧ Hid (∀ k, k < j → (rows.map BxV.b)[k]? = (rows2.map BxV.b)[k]?) ∧ Hid (Below W.heap.size W wr)) (fun v17 _ => rows.length - (intOf v17).toNat)
  case atStart => exact ⟨0, rfl, Nat.zero_le _, Lib.hid (fun k h => absurd h (by omega)), Lib.hid (Below.refl _ _)⟩
  case round =>
    obtain ⟨j, rfl, hj, hsm, hb0⟩ := hrel
    by_cases hlt2 : j < rows.length
    · have hlt3 : j < rows2.length := by rw [hlen.out]; exact hlt2
      have hinX := hX0.out wr hb0.out
      have hinY := hY0.out wr hb0.out
      obtain ⟨b, bo, cap, hv, hcX⟩ := hinX.cells_at hlt2
      injection hv with hv1 hv2 hv3
      subst hv1 hv3
      obtain ⟨b2, bo2, cap2, hv, hcY⟩ := hinY.cells_at (show j < rows2.length from hlt3)
      injection hv with hv1 hv2 hv3
      subst hv1 hv3
      have hfX := hinX.2 _ (List.getElem_mem hlt2)
      have hfY := hinY.2 _ (List.getElem_mem hlt3)
      have hfl1 := hfl.out _ (List.getElem_mem hlt2)
      have hfl3 := hfl2.out _ (List.getElem_mem hlt3)
      have hstep : Hid (∀ (P : Prop), (P ↔ BxV.b rows[j] = BxV.b rows2[j]) → (P → ∀ k, k < j + 1 → (rows.map BxV.b)[k]? = (rows2.map BxV.b)[k]?) ∧ (¬ P → ¬ rows.map BxV.b = rows2.map BxV.b)) := Lib.hid (fun P hP => ⟨fun hp k hk => by
        by_cases e : k = j
        · subst e
          rw [List.getElem?_map, List.getElem?_map, List.getElem?_eq_getElem hlt2, List.getElem?_eq_getElem hlt3, Option.map_some, Option.map_some, hP.1 hp]
        · exact hsm.out k (by omega), fun hp e => hp (hP.2 (by
        have h1 := congrArg (fun l => l[j]?) e
        simpa [List.getElem?_map, List.getElem?_eq_getElem hlt2, List.getElem?_eq_getElem hlt3] using h1))⟩)
      obtain ⟨z, hz'⟩ : ∃ z, rows[j] = z := ⟨_, rfl⟩
      obtain ⟨y, hy'⟩ : ∃ y, rows2[j] = y := ⟨_, rfl⟩
      rw [hz'] at hcX hfX hfl1
      rw [hy'] at hcY hfY hfl3
      rw [hz', hy'] at hstep
      have hcall := Lib.hid (fun w' (hb : Below wr.heap.size wr w') => eqBx_any (W := w') z y A (hfX.below hb) (hfY.below hb) hfl1.1 hfl1.2 hfl3.2 (hA2.out w' (hb0.out.trans (hb.mono hb0.out.size))))
      unfold bxAgg bxCells BxV.v at hcall
      try dsimp only at hcall
      have hi0 : (0 : Int) ≤ (j : Int) := by omega
      have hi1 : (j : Int) < (rows.length : Int) := by omega
      replace hcX : ∀ W', Below wr.heap.size wr W' → W'.cell? ⟨b, bo + j * 5, none⟩ = some (.string z.name) ∧ W'.cell? ⟨b, bo + j * 5 + 1, none⟩ = some (.int .u64 z.validity) ∧ W'.cell? ⟨b, bo + j * 5 + 2, none⟩ = some (.int .u64 z.next) ∧ W'.cell? ⟨b, bo + j * 5 + 3, none⟩ = some (.int .u64 z.high) ∧ W'.cell? ⟨b, bo + j * 5 + 4, none⟩ = some (.slice z.a z.rows.length z.c) := fun W' h => hcX W' h
      obtain ⟨c0, c1, c2, c3, c4⟩ := hcX wr (Below.refl _ _)
      replace hcY : Hid (∀ W', Below wr.heap.size wr W' → W'.cell? ⟨b2, bo2 + j * 5, none⟩ = some (.string y.name) ∧ W'.cell? ⟨b2, bo2 + j * 5 + 1, none⟩ = some (.int .u64 y.validity) ∧ W'.cell? ⟨b2, bo2 + j * 5 + 2, none⟩ = some (.int .u64 y.next) ∧ W'.cell? ⟨b2, bo2 + j * 5 + 3, none⟩ = some (.int .u64 y.high) ∧ W'.cell? ⟨b2, bo2 + j * 5 + 4, none⟩ = some (.slice y.a y.rows.length y.c)) := Lib.hid (fun W' h => hcY W' h)
      clear hinX hinY hfX hfY hfl1 hfl3 hz' hy' hlt3 hcX hsm
      go_upto_region 6 with fail
      have hz1 := (Zoo.nil wr).newBox [.string z.name, .int .u64 z.validity, .int .u64 z.next, .int .u64 z.high, .slice z.a z.rows.length z.c].toArray 40
      clear c0 c1 c2 c3 c4
      obtain ⟨B1, hB1⟩ : ∃ B1, wr.heap.size = B1 := ⟨_, rfl⟩
      have hlt1 : B1 < (wr.alloc (.cells [.string z.name, .int .u64 z.validity, .int .u64 z.next, .int .u64 z.high, .slice z.a z.rows.length z.c].toArray 40)).heap.size := by rw [← hB1]; simp
      obtain ⟨c0, c1, c2, c3, c4⟩ := hcY.out _ hz1.bel
      rw [hB1] at hz1 ⊢
      generalize (wr.alloc (.cells #[.string z.name, .int .u64 z.validity, .int .u64 z.next, .int .u64 z.high, .slice z.a z.rows.length z.c] 40)) = W1 at *
      go_upto_region 7 with fail
      have hz2 := hz1.newBox [.string y.name, .int .u64 y.validity, .int .u64 y.next, .int .u64 y.high, .slice y.a y.rows.length y.c].toArray 40
      clear c0 c1 c2 c3 c4 hz1
      obtain ⟨B2, hB2⟩ : ∃ B2, W1.heap.size = B2 := ⟨_, rfl⟩
      rw [hB2] at hz2 hlt1 ⊢
      generalize (W1.alloc (.cells #[.string y.name, .int .u64 y.validity, .int .u64 y.next, .int .u64 y.high, .slice y.a y.rows.length y.c] 40)) = W2 at *
      obtain ⟨hb1, -⟩ := hz2.box 1 rfl
      have c0 : W2.cell? ⟨B1, 0, none⟩ = some (.string z.name) := box_cell hb1 0
      have c1 : W2.cell? ⟨B1, 1, none⟩ = some (.int .u64 z.validity) := box_cell hb1 1
      have c2 : W2.cell? ⟨B1, 2, none⟩ = some (.int .u64 z.next) := box_cell hb1 2
      have c3 : W2.cell? ⟨B1, 3, none⟩ = some (.int .u64 z.high) := box_cell hb1 3
      have c4 : W2.cell? ⟨B1, 4, none⟩ = some (.slice z.a z.rows.length z.c) := box_cell hb1 4
      obtain ⟨hb1, -⟩ := hz2.box 0 rfl
      have d0 : W2.cell? ⟨B2, 0, none⟩ = some (.string y.name) := box_cell hb1 0
      have d1 : W2.cell? ⟨B2, 1, none⟩ = some (.int .u64 y.validity) := box_cell hb1 1
      have d2 : W2.cell? ⟨B2, 2, none⟩ = some (.int .u64 y.next) := box_cell hb1 2
      have d3 : W2.cell? ⟨B2, 3, none⟩ = some (.int .u64 y.high) := box_cell hb1 3
      have d4 : W2.cell? ⟨B2, 4, none⟩ = some (.slice y.a y.rows.length y.c) := box_cell hb1 4
      have hbel2 := Lib.hid hz2.bel
      replace hcall := Lib.hid (hcall.out W2 hz2.bel)
      clear hb1 hz2 hB1 hB2 hcY
      go_wp2_with fail
      refine hcall.out.mono ?_
      rintro e w5 ⟨B, rfl, hB, hb5⟩
      have hBl := Lib.hid (hb0.out.trans ((hbel2.out.trans (hb5.out.mono hbel2.out.size)).mono hb0.out.size))
      clear c0 c1 c2 c3 c4 d0 d1 d2 d3 d4 hcall hb5 hbel2
      have hst := hstep.out _ hB.out
      cases B with
      | false =>
        have hne := Lib.hid (hst.2 (by decide))
        clear hst hstep hB
        go_wp2_with fail
        go_ret
        exact yn_f hne.out hBl
      | true =>
        have hsm2 := Lib.hid (hst.1 rfl)
        clear hst hstep hB
        go_wp2_with fail
        go_roundw
        case rel => exact ⟨j + 1, by go_num, by omega, hsm2, hBl⟩
        case measure => simp [intOf] <;> omega
    · obtain rfl : j = rows.length := by omega
      have he : Hid (rows.map BxV.b = rows2.map BxV.b) := Lib.hid (by
        apply List.ext_getElem?
        intro k
        by_cases hk : k < rows.length
        · exact hsm.out k hk
        · rw [List.getElem?_eq_none (by rw [List.length_map]; omega), List.getElem?_eq_none (by rw [List.length_map, hlen.out]; omega)])
      clear hsm
      go_wp2_with fail
      go_ret
      exact yn_t he.out hb0
set_option maxRecDepth 100000 in
set_option maxHeartbeats 16000000 in
theorem eqSts_any {W : World} (l l2 : List St) (v v2 : Value) (hX : StsIn W v l) (hY : StsIn W v2 l2) (hl : l.length ≤ 1000000) :
    Calls Tryz.prog 40 #[v, v2] W (YesNo (l = l2) W) := by
  have hX0 := Lib.hid (fun w' (h : Below W.heap.size W w') => (Rd.below hX h : StsIn w' v l))
  have hY0 := Lib.hid (fun w' (h : Below W.heap.size W w') => (Rd.below hY h : StsIn w' v2 l2))
  obtain ⟨xa, xc, rfl, -⟩ := hX
  obtain ⟨ya, yc, rfl, -⟩ := hY
  by_cases hlen : l2.length = l.length
  case neg =>
    have hne4 : ((l.length : Int) != (l2.length : Int)) = true := by simp; omega
    have hne : Hid (¬ l = l2) := Lib.hid (fun e => hlen (by rw [e]))
    clear hlen
    go_enter Tryz.func40, Tryz.ntmps40
    go_wp2_with fail
    go_ret
    exact yn_f hne.out (Lib.hid (Below.refl _ _))
  have hne4 : ((l.length : Int) != (l.length : Int)) = false := by simp
  rw [hlen]
  replace hlen := Lib.hid hlen
  go_enter Tryz.func40, Tryz.ntmps40
  go_wp2_with fail
  clear hne4
  go_loopw [5, 13] (fun _ v13 wr => ∃ j : Nat, v13 = .int .i64 j ∧ j ≤ l.length ∧ Hid (∀ k, k < j → l[k]? = l2[k]?) ∧ Hid (Below W.heap.size W wr)) (fun _ v13 _ => l.length - (intOf v13).toNat)
  case atStart => exact ⟨0, rfl, Nat.zero_le _, Lib.hid (fun k h => absurd h (by omega)), Lib.hid (Below.refl _ _)⟩
  case round =>
    obtain ⟨j, rfl, hj, hsm, hb0⟩ := hrel
    by_cases hlt2 : j < l.length
    · have hlt3 : j < l2.length := by rw [hlen.out]; exact hlt2
      obtain ⟨b, bo, cap, hv, hcX⟩ := st_at (hX0.out wr hb0.out) hlt2
      injection hv with hv1 hv2 hv3
      subst hv1 hv3
      obtain ⟨b2, bo2, cap2, hv, hcY⟩ := st_at (hY0.out wr hb0.out) hlt3
      injection hv with hv1 hv2 hv3
      subst hv1 hv3
      have hstep : Hid ((l[j] = l2[j] → ∀ k, k < j + 1 → l[k]? = l2[k]?) ∧ (¬ l[j] = l2[j] → ¬ l = l2)) := Lib.hid ⟨fun hp k hk => by
        by_cases e : k = j
        · subst e
          rw [List.getElem?_eq_getElem hlt2, List.getElem?_eq_getElem hlt3, hp]
        · exact hsm.out k (by omega), fun hp e => hp (by subst e; rfl)⟩
      obtain ⟨z, hz'⟩ : ∃ z, l[j] = z := ⟨_, rfl⟩
      obtain ⟨y, hy'⟩ : ∃ y, l2[j] = y := ⟨_, rfl⟩
      rw [hz'] at hcX
      rw [hy'] at hcY
      rw [hz', hy'] at hstep
      obtain ⟨c0, c1, c2, c3, c4⟩ := hcX wr (Below.refl _ _)
      obtain ⟨d0, d1, d2, d3, d4⟩ := hcY wr (Below.refl _ _)
      have hi0 : (0 : Int) ≤ (j : Int) := by omega
      have hi1 : (j : Int) < (l.length : Int) := by omega
      clear hz' hy' hlt3 hcX hcY hsm
      obtain ⟨z0, z1, z2, z3, z4⟩ := z
      obtain ⟨y0, y1, y2, y3, y4⟩ := y
      dsimp only at c0 c1 c2 c3 c4 d0 d1 d2 d3 d4
      by_cases t0 : z0 = y0
      case neg =>
        have n0 : ((z0 : Int) == (y0 : Int)) = false := by simp; omega
        have hne := Lib.hid (hstep.out.2 (fun e => t0 (by injection e)))
        clear t0 hstep
        go_wp2_with fail
        go_quiet (fail)
        have hbq := Lib.hid (below_drewN hb0.out nq)
        go_wp2_with fail
        go_ret
        exact yn_f hne.out hbq
      subst t0
      by_cases t1 : z1 = y1
      case neg =>
        have n1 : ((z1 : Int) == (y1 : Int)) = false := by simp; omega
        have hne := Lib.hid (hstep.out.2 (fun e => t1 (by injection e)))
        clear t1 hstep
        go_wp2_with fail
        go_quiet (fail)
        have hbq := Lib.hid (below_drewN hb0.out nq)
        go_wp2_with fail
        go_ret
        exact yn_f hne.out hbq
      subst t1
      by_cases t2 : z2 = y2
      case neg =>
        have n2 : (z2 == y2) = false := by simp; omega
        have hne := Lib.hid (hstep.out.2 (fun e => t2 (by injection e)))
        clear t2 hstep
        go_wp2_with fail
        go_quiet (fail)
        have hbq := Lib.hid (below_drewN hb0.out nq)
        go_wp2_with fail
        go_ret
        exact yn_f hne.out hbq
      subst t2
      by_cases t3 : z3 = y3
      case neg =>
        have n3 : ((z3 : Int) == (y3 : Int)) = false := by simp; omega
        have hne := Lib.hid (hstep.out.2 (fun e => t3 (by injection e)))
        clear t3 hstep
        go_wp2_with fail
        go_quiet (fail)
        have hbq := Lib.hid (below_drewN hb0.out nq)
        go_wp2_with fail
        go_ret
        exact yn_f hne.out hbq
      subst t3
      by_cases t4 : z4 = y4
      case neg =>
        have n4 : ((z4 : Int) == (y4 : Int)) = false := by simp; omega
        have hne := Lib.hid (hstep.out.2 (fun e => t4 (by injection e)))
        clear t4 hstep
        go_wp2_with fail
        go_quiet (fail)
        have hbq := Lib.hid (below_drewN hb0.out nq)
        go_wp2_with fail
        go_ret
        exact yn_f hne.out hbq
      subst t4
      have hsm2 := Lib.hid (hstep.out.1 rfl)
      clear hstep
      go_wp2_with fail
      go_quiet (fail)
      have hbq := Lib.hid (below_drewN hb0.out nq)
      go_wp2_with fail
      go_roundw
      case rel => exact ⟨j + 1, by go_num, by omega, hsm2, hbq⟩
      case measure => simp [intOf] <;> omega
    · obtain rfl : j = l.length := by omega
      have he : Hid (l = l2) := Lib.hid (by
        apply List.ext_getElem?
        intro k
        by_cases hk : k < l.length
        · exact hsm.out k hk
        · rw [List.getElem?_eq_none (by omega), List.getElem?_eq_none (by rw [hlen.out]; omega)])
      clear hsm
      go_wp2_with fail
      go_ret
      exact yn_t he.out hb0
set_option maxRecDepth 100000 in
set_option maxHeartbeats 16000000 in
theorem eqHms_any {W : World} (l l2 : List Hm) (v v2 : Value) (hX : HmsIn W v l) (hY : HmsIn W v2 l2) (hl : l.length ≤ 1000000) :
    Calls Tryz.prog 41 #[v, v2] W (YesNo (l = l2) W) := by
  have hX0 := Lib.hid (fun w' (h : Below W.heap.size W w') => (Rd.below hX h : HmsIn w' v l))
  have hY0 := Lib.hid (fun w' (h : Below W.heap.size W w') => (Rd.below hY h : HmsIn w' v2 l2))
  obtain ⟨xa, xc, rfl, -⟩ := hX
  obtain ⟨ya, yc, rfl, -⟩ := hY
  by_cases hlen : l2.length = l.length
  case neg =>
    have hne4 : ((l.length : Int) != (l2.length : Int)) = true := by simp; omega
    have hne : Hid (¬ l = l2) := Lib.hid (fun e => hlen (by rw [e]))
    clear hlen
    go_enter Tryz.func41, Tryz.ntmps41
    go_wp2_with fail
    go_ret
    exact yn_f hne.out (Lib.hid (Below.refl _ _))
  have hne4 : ((l.length : Int) != (l.length : Int)) = false := by simp
  rw [hlen]
  replace hlen := Lib.hid hlen
  go_enter Tryz.func41, Tryz.ntmps41
  go_wp2_with fail
  clear hne4
  go_loopw [5, 13] (fun _ v13 wr => ∃ j : Nat, v13 = .int .i64 j ∧ j ≤ l.length ∧ Hid (∀ k, k < j → l[k]? = l2[k]?) ∧ Hid (Below W.heap.size W wr)) (fun _ v13 _ => l.length - (intOf v13).toNat)
  case atStart => exact ⟨0, rfl, Nat.zero_le _, Lib.hid (fun k h => absurd h (by omega)), Lib.hid (Below.refl _ _)⟩
  case round =>
    obtain ⟨j, rfl, hj, hsm, hb0⟩ := hrel
    by_cases hlt2 : j < l.length
    · have hlt3 : j < l2.length := by rw [hlen.out]; exact hlt2
      obtain ⟨b, bo, cap, hv, hcX⟩ := hm_at (hX0.out wr hb0.out) hlt2
      injection hv with hv1 hv2 hv3
      subst hv1 hv3
      obtain ⟨b2, bo2, cap2, hv, hcY⟩ := hm_at (hY0.out wr hb0.out) hlt3
      injection hv with hv1 hv2 hv3
      subst hv1 hv3
      have hstep : Hid ((l[j] = l2[j] → ∀ k, k < j + 1 → l[k]? = l2[k]?) ∧ (¬ l[j] = l2[j] → ¬ l = l2)) := Lib.hid ⟨fun hp k hk => by
        by_cases e : k = j
        · subst e
          rw [List.getElem?_eq_getElem hlt2, List.getElem?_eq_getElem hlt3, hp]
        · exact hsm.out k (by omega), fun hp e => hp (by subst e; rfl)⟩
      obtain ⟨z, hz'⟩ : ∃ z, l[j] = z := ⟨_, rfl⟩
      obtain ⟨y, hy'⟩ : ∃ y, l2[j] = y := ⟨_, rfl⟩
      rw [hz'] at hcX
      rw [hy'] at hcY
      rw [hz', hy'] at hstep
      obtain ⟨c0, c1, c2⟩ := hcX wr (Below.refl _ _)
      obtain ⟨d0, d1, d2⟩ := hcY wr (Below.refl _ _)
      have hi0 : (0 : Int) ≤ (j : Int) := by omega
      have hi1 : (j : Int) < (l.length : Int) := by omega
      clear hz' hy' hlt3 hcX hcY hsm
      obtain ⟨z0, z1, z2⟩ := z
      obtain ⟨y0, y1, y2⟩ := y
      dsimp only at c0 c1 c2 d0 d1 d2
      by_cases t0 : z0 = y0
      case neg =>
        have n0 : (z0 == y0) = false := by simp; omega
        have hne := Lib.hid (hstep.out.2 (fun e => t0 (by injection e)))
        clear t0 hstep
        go_wp2_with fail
        go_quiet (fail)
        have hbq := Lib.hid (below_drewN hb0.out nq)
        go_wp2_with fail
        go_ret
        exact yn_f hne.out hbq
      subst t0
      by_cases t1 : z1 = y1
      case neg =>
        have n1 : ((z1 : Int) == (y1 : Int)) = false := by simp; omega
        have hne := Lib.hid (hstep.out.2 (fun e => t1 (by injection e)))
        clear t1 hstep
        go_wp2_with fail
        go_quiet (fail)
        have hbq := Lib.hid (below_drewN hb0.out nq)
        go_wp2_with fail
        go_ret
        exact yn_f hne.out hbq
      subst t1
      by_cases t2 : z2 = y2
      case neg =>
        have n2 : ((z2 : Int) == (y2 : Int)) = false := by simp; omega
        have hne := Lib.hid (hstep.out.2 (fun e => t2 (by injection e)))
        clear t2 hstep
        go_wp2_with fail
        go_quiet (fail)
        have hbq := Lib.hid (below_drewN hb0.out nq)
        go_wp2_with fail
        go_ret
        exact yn_f hne.out hbq
      subst t2
      have hsm2 := Lib.hid (hstep.out.1 rfl)
      clear hstep
      go_wp2_with fail
      go_quiet (fail)
      have hbq := Lib.hid (below_drewN hb0.out nq)
      go_wp2_with fail
      go_roundw
      case rel => exact ⟨j + 1, by go_num, by omega, hsm2, hbq⟩
      case measure => simp [intOf] <;> omega
    · obtain rfl : j = l.length := by omega
      have he : Hid (l = l2) := Lib.hid (by
        apply List.ext_getElem?
        intro k
        by_cases hk : k < l.length
        · exact hsm.out k hk
        · rw [List.getElem?_eq_none (by omega), List.getElem?_eq_none (by rw [hlen.out]; omega)])
      clear hsm
      go_wp2_with fail
      go_ret
      exact yn_t he.out hb0
end Go.Proofs.YtpkaoiadjffjiaaGreat
namespace Go.Proofs.YtpkaoiadjffjiaaGreat
/-- a number's bytes -/
def numL (n : Nat) : List UInt8 := if h : n ≤ 127 then [UInt8.ofNat n] else UInt8.ofNat (n % 128 + 128) :: numL (n / 128)
termination_by n
decreasing_by omega
/-- the number that stands at the beginning, and what is behind it; i bytes of it, of the value a, were read -/
def scanL : Nat → Nat → List UInt8 → Option (Nat × List UInt8)
  | _, _, [] => none
  | i, a, c :: r => if i = 9 ∧ 1 < c.toNat then none else if c.toNat < 128 then (if c.toNat = 0 ∧ 0 < i then none else some (a + c.toNat % 128 * 128 ^ i, r)) else scanL (i + 1) (a + c.toNat % 128 * 128 ^ i) r
theorem numL_low {n : Nat} (h : n ≤ 127) : numL n = [UInt8.ofNat n] := by rw [numL, dif_pos h]
theorem numL_high {n : Nat} (h : ¬ n ≤ 127) : numL n = UInt8.ofNat (n % 128 + 128) :: numL (n / 128) := by rw [numL, dif_neg h]
theorem numL_len : ∀ (k n : Nat), n < 128 ^ (k + 1) → (numL n).length ≤ k + 1
  | 0, n, h => by rw [numL_low (by omega)]; simp
  | k + 1, n, h => by
    by_cases h1 : n ≤ 127
    · rw [numL_low h1]; simp
    · rw [numL_high h1]
      have := numL_len k (n / 128) (by rw [Nat.div_lt_iff_lt_mul (by decide)]; rw [Nat.pow_succ] at h; exact h)
      simpa using this
theorem numL_10 {n : Nat} (h : n < 18446744073709551616) : (numL n).length ≤ 10 := numL_len 9 n (by omega)
theorem numL_pos (n : Nat) : 1 ≤ (numL n).length := by
  by_cases h1 : n ≤ 127
  · rw [numL_low h1]; simp
  · rw [numL_high h1]; simp
theorem scan_num_gen (r : List UInt8) : ∀ (k i a m : Nat), i + k = 10 → (m = 0 → i = 0) → m * 128 ^ i < 18446744073709551616 → scanL i a (numL m ++ r) = some (a + m * 128 ^ i, r)
  | 0, i, a, m, hk, h0, hm => by
    obtain rfl : i = 10 := by omega
    have : m = 0 := by
      have : (128 : Nat) ^ 10 = 1180591620717411303424 := by decide
      omega
    omega
  | k + 1, i, a, m, hk, h0, hm => by
    by_cases h1 : m ≤ 127
    · rw [numL_low h1]
      have e : (UInt8.ofNat m).toNat = m := by simp [UInt8.toNat_ofNat']; omega
      show scanL i a (UInt8.ofNat m :: r) = _
      rw [scanL, e, if_neg, if_pos (by omega), if_neg (by omega), Nat.mod_eq_of_lt (by omega)]
      rintro ⟨rfl, h2⟩
      have : (128 : Nat) ^ 9 = 9223372036854775808 := by decide
      omega
    · rw [numL_high h1]
      have e : (UInt8.ofNat (m % 128 + 128)).toNat = m % 128 + 128 := by simp [UInt8.toNat_ofNat']; omega
      show scanL i a (UInt8.ofNat (m % 128 + 128) :: (numL (m / 128) ++ r)) = _
      have h3 : m / 128 * 128 ^ (i + 1) = m / 128 * 128 * 128 ^ i := by rw [Nat.pow_succ]; ac_rfl
      have h4 : m / 128 * 128 + m % 128 = m := Nat.div_add_mod' m 128
      have h5 : m * 128 ^ i = m / 128 * 128 * 128 ^ i + m % 128 * 128 ^ i := by rw [← Nat.add_mul, h4]
      rw [scanL, e, if_neg, if_neg (by omega), scan_num_gen r k (i + 1) _ (m / 128) (by omega) (fun h => by omega) (by omega), h3, h5]
      · congr 2
        have : (m % 128 + 128) % 128 = m % 128 := by omega
        rw [this]; omega
      · rintro ⟨rfl, -⟩
        have : (128 : Nat) ^ 9 = 9223372036854775808 := by decide
        omega
theorem scan_num {n : Nat} (h : n < 18446744073709551616) (r : List UInt8) : scanL 0 0 (numL n ++ r) = some (n, r) := by
  rw [scan_num_gen r 10 0 0 n rfl (fun _ => rfl) (by omega)]; simp
theorem num_scan_gen : ∀ (l : List UInt8) (i a n : Nat) (r : List UInt8), i ≤ 9 → scanL i a l = some (n, r) → ∃ m, n = a + m * 128 ^ i ∧ l = numL m ++ r ∧ (m = 0 → i = 0) ∧ m * 128 ^ i < 18446744073709551616
  | [], _, _, _, _, _, h => by cases h
  | c :: l, i, a, n, r, hi, h => by
    have hc := c.toNat_lt
    rw [scanL] at h
    split at h
    · cases h
    rename_i h1
    split at h
    · rename_i h2
      split at h
      · cases h
      rename_i h3
      injection h with h
      injection h with ha hb
      refine ⟨c.toNat, by rw [← ha, Nat.mod_eq_of_lt h2], ?_, fun h0 => by omega, ?_⟩
      · rw [numL_low (by omega), ← hb]; simp
      · have hp : (128 : Nat) ^ i ≤ 128 ^ 9 := Nat.pow_le_pow_right (by decide) hi
        have e9 : (128 : Nat) ^ 9 = 9223372036854775808 := by decide
        by_cases h9 : i = 9
        · subst h9
          have : c.toNat ≤ 1 := by omega
          have := Nat.mul_le_mul this (Nat.le_refl (128 ^ 9))
          omega
        · have h8 : (128 : Nat) ^ i ≤ 128 ^ 8 := Nat.pow_le_pow_right (by decide) (by omega)
          have e8 : (128 : Nat) ^ 8 = 72057594037927936 := by decide
          have := Nat.mul_le_mul (show c.toNat ≤ 127 by omega) h8
          omega
    · rename_i h2
      have hi9 : i ≠ 9 := fun e => h1 ⟨e, by omega⟩
      obtain ⟨m, e1, e2, e3, e4⟩ := num_scan_gen l (i + 1) _ n r (by omega) h
      have hm : m ≠ 0 := fun e => by have := e3 e; omega
      have h5 : m * 128 ^ (i + 1) = m * 128 * 128 ^ i := by rw [Nat.pow_succ]; ac_rfl
      have e : c.toNat % 128 = c.toNat - 128 := by omega
      refine ⟨m * 128 + c.toNat % 128, by rw [e1, h5, Nat.add_mul]; omega, ?_, fun h => by omega, ?_⟩
      · have hn : ¬ m * 128 + c.toNat % 128 ≤ 127 := by omega
        rw [numL_high hn]
        have h6 : (m * 128 + c.toNat % 128) % 128 + 128 = c.toNat := by omega
        have h7 : (m * 128 + c.toNat % 128) / 128 = m := by omega
        rw [h6, h7, e2]; simp
      · have hp8 : (128 : Nat) ^ i ∣ 18446744073709551616 / 2 := by
          have : (18446744073709551616 / 2 : Nat) = 128 ^ i * 128 ^ (9 - i) := by
            rw [← Nat.pow_add, show i + (9 - i) = 9 by omega]
          exact ⟨_, this⟩
        have h8 : (18446744073709551616 : Nat) = 2 * 128 ^ (8 - i) * 128 ^ (i + 1) := by
          rw [Nat.mul_assoc, ← Nat.pow_add, show 8 - i + (i + 1) = 9 by omega]
        have h9 : m < 2 * 128 ^ (8 - i) := by
          rw [h8] at e4
          exact Nat.lt_of_mul_lt_mul_right e4
        have h10 : m * 128 + c.toNat % 128 < 2 * 128 ^ (8 - i) * 128 := by omega
        have h11 := Nat.mul_lt_mul_of_pos_right h10 (Nat.pow_pos (n := i) (show 0 < 128 by decide))
        rw [h8, Nat.pow_succ, Nat.mul_comm (128 ^ i), ← Nat.mul_assoc]
        exact h11
theorem num_scan {l : List UInt8} {n : Nat} {r : List UInt8} (h : scanL 0 0 l = some (n, r)) : l = numL n ++ r ∧ n < 18446744073709551616 := by
  obtain ⟨m, e1, e2, -, e4⟩ := num_scan_gen l 0 0 n r (by decide) h
  obtain rfl : n = m := by simpa using e1
  exact ⟨e2, by simpa using e4⟩

/-- how a reader stands: behind a fault, or with these bytes left -/
abbrev PS := Option (List UInt8)
def rNum (most : Nat) (s : PS) : Nat × PS := match s.bind (scanL 0 0) with
  | some (n, r) => if n ≤ most then (n, some r) else (0, none)
  | none => (0, none)
def rText (most : Nat) (s : PS) : List UInt8 × PS := match s.bind (scanL 0 0) with
  | some (n, r) => if n ≤ most ∧ n ≤ r.length then (r.take n, some (r.drop n)) else ([], none)
  | none => ([], none)
def rMany {α : Type} (one : PS → α × PS) : Nat → PS → List α × PS
  | 0, s => ([], s)
  | k + 1, s => ((rMany one k s).1 ++ [(one (rMany one k s).2).1], (one (rMany one k s).2).2)
def rList {α : Type} (most : Nat) (one : PS → α × PS) (s : PS) : List α × PS := rMany one (rNum most s).1 (rNum most s).2
def textL (t : List UInt8) : List UInt8 := numL t.length ++ t
def listL {α : Type} (one : α → List UInt8) (l : List α) : List UInt8 := numL l.length ++ l.flatMap one
/-- what is written is read as it was, and what is read was written so -/
structure Codec {α : Type} (enc : α → List UInt8) (rd : PS → α × PS) (ok : α → Prop) : Prop where
  back : ∀ x r, ok x → rd (some (enc x ++ r)) = (x, some r)
  form : ∀ s r, (rd s).2 = some r → s = some (enc (rd s).1 ++ r)
theorem Codec.num (most : Nat) (hm : most < 18446744073709551616) : Codec numL (rNum most) (· ≤ most) where
  back := fun x r h => by
    unfold rNum
    rw [Option.bind_some, scan_num (by omega)]
    simp only []
    rw [if_pos h]
  form := fun s r h => by
    unfold rNum at h ⊢
    cases s with
    | none => cases h
    | some l =>
      rw [Option.bind_some] at h ⊢
      cases hs : scanL 0 0 l with
      | none => rw [hs] at h; cases h
      | some p =>
        obtain ⟨n, q⟩ := p
        rw [hs] at h
        simp only [] at h ⊢
        split at h
        · rename_i hn
          rw [if_pos hn]
          injection h with h
          rw [← h, ← (num_scan hs).1]
        · cases h
theorem Codec.text (most : Nat) (hm : most < 18446744073709551616) : Codec textL (rText most) (fun t => t.length ≤ most) where
  back := fun x r h => by
    unfold rText textL
    rw [Option.bind_some, List.append_assoc, scan_num (by omega)]
    simp only []
    rw [if_pos ⟨h, by simp⟩]
    simp
  form := fun s r h => by
    unfold rText at h ⊢
    cases s with
    | none => cases h
    | some l =>
      rw [Option.bind_some] at h ⊢
      cases hs : scanL 0 0 l with
      | none => rw [hs] at h; cases h
      | some p =>
        obtain ⟨n, q⟩ := p
        rw [hs] at h
        simp only [] at h ⊢
        split at h
        · rename_i hn
          rw [if_pos hn]
          injection h with h
          have hl : (q.take n).length = n := by rw [List.length_take]; omega
          unfold textL
          rw [← h, hl, List.append_assoc, List.take_append_drop, ← (num_scan hs).1]
        · cases h
section
variable {α : Type} {enc : α → List UInt8} {rd : PS → α × PS} {ok : α → Prop}
theorem Codec.many_form (h : Codec enc rd ok) : ∀ k s r, (rMany rd k s).2 = some r → s = some ((rMany rd k s).1.flatMap enc ++ r)
  | 0, s, r, e => e
  | k + 1, s, r, e => by
    have h1 := h.form _ _ (show (rd (rMany rd k s).2).2 = some r from e)
    have h2 := many_form h k s _ h1
    show s = some (((rMany rd k s).1 ++ [(rd (rMany rd k s).2).1]).flatMap enc ++ r)
    rw [List.flatMap_append, List.append_assoc]
    simpa using h2
theorem Codec.many_back (h : Codec enc rd ok) : ∀ l : List α, (∀ x ∈ l, ok x) → ∀ q, rMany rd l.length (some (l.flatMap enc ++ q)) = (l, some q) := fun l => by
  have key : ∀ (n : Nat) (l : List α), l.length = n → (∀ x ∈ l, ok x) → ∀ q, rMany rd n (some (l.flatMap enc ++ q)) = (l, some q) := fun n => by
    induction n with
    | zero => intro l hl _ q; rw [List.length_eq_zero_iff.1 hl]; rfl
    | succ n ih =>
      intro l hl ho q
      obtain ⟨a, b, rfl⟩ : ∃ a b, l = a ++ [b] := ⟨l.dropLast, l.getLast (by intro e; subst e; cases hl), (List.dropLast_concat_getLast _).symm⟩
      have hla : a.length = n := by simpa using hl
      have h1 := ih a hla (fun x hx => ho x (List.mem_append.2 (.inl hx))) (enc b ++ q)
      have h2 := h.back b q (ho b (by simp))
      rw [List.flatMap_append, List.append_assoc]
      show ((rMany rd n _).1 ++ [(rd (rMany rd n _).2).1], (rd (rMany rd n _).2).2) = _
      simp only [List.flatMap_cons, List.flatMap_nil, List.append_nil]
      rw [h1]
      simp only []
      rw [h2]
  exact key l.length l rfl
theorem Codec.list (h : Codec enc rd ok) (most : Nat) (hm : most < 18446744073709551616) : Codec (listL enc) (rList most rd) (fun l => l.length ≤ most ∧ ∀ x ∈ l, ok x) where
  back := fun l r ho => by
    unfold rList listL
    rw [List.append_assoc, (Codec.num most hm).back _ _ ho.1]
    exact h.many_back l ho.2 r
  form := fun s r e => by
    unfold rList at e ⊢
    unfold listL
    have h1 := h.many_form _ _ _ e
    have h2 := (Codec.num most hm).form _ _ h1
    have h3 : ∀ k s, (rMany rd k s).1.length = k := fun k s => by
      induction k with
      | zero => rfl
      | succ k ih => show ((rMany rd k s).1 ++ _).length = _; rw [List.length_append, ih]; rfl
    rw [h3, List.append_assoc]
    exact h2
theorem rMany_none (hn : ∀ s, s = none → (rd s).2 = none) : ∀ k, (rMany rd k none).2 = none
  | 0 => rfl
  | k + 1 => hn _ (rMany_none hn k)
/-- one behind the other -/
theorem Codec.pair {β : Type} {enc2 : β → List UInt8} {rd2 : PS → β × PS} {ok2 : β → Prop} (h : Codec enc rd ok) (h2 : Codec enc2 rd2 ok2) : Codec (fun p : α × β => enc p.1 ++ enc2 p.2) (fun s => (((rd s).1, (rd2 (rd s).2).1), (rd2 (rd s).2).2)) (fun p => ok p.1 ∧ ok2 p.2) where
  back := fun p r ho => by
    simp only [List.append_assoc]
    rw [h.back _ _ ho.1]
    simp only []
    rw [h2.back _ _ ho.2]
  form := fun s r e => by
    have h1 := h2.form _ _ e
    have h3 := h.form _ _ h1
    simp only [List.append_assoc]
    exact h3
theorem Codec.iso {β : Type} (h : Codec enc rd ok) (f : α → β) (g : β → α) (hfg : ∀ x, g (f x) = x) (hgf : ∀ y, f (g y) = y) : Codec (fun y => enc (g y)) (fun s => (f (rd s).1, (rd s).2)) (fun y => ok (g y)) where
  back := fun y r ho => by rw [h.back _ _ ho]; simp only [hgf]
  form := fun s r e => by simp only [hfg]; exact h.form s r e
theorem Codec.weak {ok2 : α → Prop} (h : Codec enc rd ok) (hw : ∀ x, ok2 x → ok x) : Codec enc rd ok2 := ⟨fun x r ho => h.back x r (hw x ho), h.form⟩
end
end Go.Proofs.YtpkaoiadjffjiaaGreat
namespace Go.Proofs.YtpkaoiadjffjiaaGreat
set_option linter.unusedSimpArgs false
open Go.RowKit
attribute [local go_sem ↓] Go.wp_at_zero Go.wp_at_succ

/-- a text as a result: what it reads, nothing else turns -/
def RetS (l : List UInt8) (w : World) (e : Ending) (w' : World) : Prop := ∃ u : ByteArray, e = .returned (.string u) ∧ Hid (u.data.toList = l) ∧ Hid (Below w.heap.size w w')
theorem num_byte (n : Nat) : bits .or .u8 (IntKind.u8.wrap (n : Int)) 128 = ((UInt8.ofNat (n % 128 + 128)).toNat : Int) := by
  have h1 : IntKind.u8.wrap (n : Int) = ((n % 256 : Nat) : Int) := by rw [IntKind.wrap_u8']; omega
  rw [h1, show (128 : Int) = ((128 : Nat) : Int) from rfl, u8_or_nat _ _ (by omega) (by omega)]
  have h2 : (UInt8.ofNat (n % 128 + 128)).toNat = n % 128 + 128 := by simp [UInt8.toNat_ofNat']; omega
  rw [h2]
  congr 1
  have h3 : n % 256 = n / 128 % 2 * 128 + n % 128 := by omega
  have h4 : (n % 128) ||| 128 = 128 + n % 128 := by
    have := Nat.two_pow_add_eq_or_of_lt (i := 7) (b := n % 128) (by omega) 1
    rw [Nat.or_comm]
    simpa using this.symm
  rcases Nat.mod_two_eq_zero_or_one (n / 128) with h | h
  · rw [h3, h, Nat.zero_mul, Nat.zero_add, h4]; omega
  · rw [h3, h]
    have := Nat.two_pow_add_eq_or_of_lt (i := 7) (b := n % 128) (by omega) 1
    simp only [Nat.mul_one, Nat.one_mul] at this ⊢
    rw [show (128 : Nat) = 2 ^ 7 from rfl, this, Nat.or_assoc, Nat.or_comm (n % 128), ← Nat.or_assoc, Nat.or_self, ← this]
    omega
theorem low_byte {n : Nat} (h : n ≤ 127) : IntKind.u8.wrap (n : Int) = ((UInt8.ofNat n).toNat : Int) := by
  rw [IntKind.wrap_u8']
  have h2 : (UInt8.ofNat n).toNat = n := by simp [UInt8.toNat_ofNat']; omega
  rw [h2]; omega
theorem info5u : (Tryz.prog.info? 5).map (fun i => (i.zero, i.size, i.bytes)) = some (some (.int .u8 0), 1, 1) := by kernel_rfl
set_option maxHeartbeats 4000000 in
theorem num_any (n : Nat) (hn : n < 18446744073709551616) (w : World) : Calls Tryz.prog 47 #[.int .u64 n] w (RetS (numL n) w) := by
  go_enter Tryz.func47, Tryz.ntmps47
  go_wp2_with fail
  go_loopw [0, 3] (fun v b wr => ∃ (k : Nat) (acc : List UInt8), v = .int .u64 k ∧ k < 18446744073709551616 ∧ k ≤ n ∧ OwnBytes wr w.heap.size 5 b acc ∧ Hid (numL n = acc ++ numL k) ∧ Hid (Below w.heap.size w wr)) (fun v _ _ => (intOf v).toNat)
  case atStart => exact ⟨n, [], rfl, hn, Nat.le_refl _, OwnBytes.nil _ _ _, Lib.hid rfl, Lib.hid (Below.refl _ _)⟩
  case round =>
    obtain ⟨k, acc, rfl, hk, hkn, ho, hp, hb⟩ := hrel
    have hal : acc.length ≤ 10 := by
      have h1 := numL_10 hn
      rw [hp.out, List.length_append] at h1
      omega
    have hsz := hb.out.size
    by_cases hlt : k ≤ 127
    · have h1 : ¬ (127 : Int) < (k : Int) := by omega
      have hl := low_byte hlt
      go_wp2_with (at_builtin; go_loud (refine wpList_append_byte rfl (.tmp 14) (.tmp 17) 99 rfl w.heap.size 5 Tryz.underlying99 info5u _ _ wr.heap.size _ (UInt8.ofNat k) rfl rfl (ho.alloc _) (cell_new1 _ _ _) hl (by omega) (by simp; omega) ?_))
      intro v1 w1 ho1 hg1
      have hb1 := Lib.hid (below_grown (hb.out.alloc hsz _) hg1 (by simp; omega) (ho.alloc _))
      have kb := ho1.back (P := Tryz.prog) 99 9 Tryz.underlying99 Tryz.underlying5 Tryz.underlying9
      clear hg1
      go_wp2_with fail
      go_ret
      exact ⟨_, rfl, Lib.hid (by rw [hp.out, numL_low hlt]), hb1⟩
    · have h1 : (127 : Int) < (k : Int) := by omega
      have hl := num_byte k
      have hp1 : Hid (numL n = (acc ++ [UInt8.ofNat (k % 128 + 128)]) ++ numL (k / 128)) := Lib.hid (by rw [hp.out, numL_high hlt]; simp)
      generalize UInt8.ofNat (k % 128 + 128) = c at hl hp1
      go_wp2_with (at_builtin; refine wpList_append_byte rfl (.tmp 6) (.tmp 10) 99 rfl w.heap.size 5 Tryz.underlying99 info5u _ _ wr.heap.size _ c rfl rfl (ho.alloc _) (cell_new1 _ _ _) hl (by omega) (by simp; omega) ?_)
      intro v1 w1 ho1 hg1
      have hb1 := Lib.hid (below_grown (hb.out.alloc hsz _) hg1 (by simp; omega) (ho.alloc _))
      clear hg1 hp
      go_wp2_with fail
      go_roundw
      case rel => exact ⟨k / 128, _, by first | rfl | (congr 1; omega) | (congr 1; rw [show (128 : Int) = ((128 : Nat) : Int) from rfl]; simp [Int.fdiv_eq_ediv]), by omega, by omega, ho1, hp1, hb1⟩
      case measure => simp [intOf] <;> omega
theorem u64_len (s : ByteArray) (hs : s.size < 9223372036854775808) : IntKind.u64.wrap (s.size : Int) = (s.size : Int) := by rw [IntKind.wrap_u64]; omega
theorem text_any (s : ByteArray) (hs : s.size ≤ 1152921504606846976) (w : World) : Calls Tryz.prog 49 #[.string s] w (RetS (textL s.data.toList) w) := by
  have hw := u64_len s (by omega)
  have hn := Lib.hid (num_any s.size (by omega) w)
  go_enter Tryz.func49, Tryz.ntmps49
  go_wp2_with fail
  refine hn.out.mono ?_
  rintro e w1 ⟨u, rfl, hu, hb⟩
  have hz : u.size + s.size ≤ 9223372036854775807 := by
    have := numL_10 (n := s.size) (by omega)
    rw [size_len u, hu.out]; omega
  clear hn
  go_wp2_with fail
  go_ret
  exact ⟨_, rfl, Lib.hid (by rw [toList_app, hu.out]; rfl), hb⟩
theorem nums_len : ∀ l : List Nat, (∀ x ∈ l, x < 18446744073709551616) → (l.flatMap numL).length ≤ 10 * l.length
  | [], _ => by simp
  | x :: l, h => by
    have h1 := nums_len l (fun y hy => h y (List.mem_cons_of_mem _ hy))
    have h2 := numL_10 (h x (List.mem_cons_self ..))
    rw [List.flatMap_cons, List.length_append, List.length_cons]; omega
def encN (n : Nat) : Value := .int .u64 (n : Int)
theorem rd_newN (w : World) (us : List Nat) (t : TypeId) : Rd (w.alloc (.cells (us.map encN).toArray t)) (.slice (some ⟨w.heap.size, 0, none⟩) us.length us.length) us.length (us.map encN) := by
  refine ⟨_, _, rfl, .inr ⟨w.heap.size, 0, rfl, by simp, Nat.le_refl _, fun i u hu => ?_⟩⟩
  rw [Nat.zero_add, cell_at (heap_alloc_new w _) i, List.getElem?_toArray]
  exact hu
set_option maxHeartbeats 4000000 in
theorem nums_any (v : Value) (l : List Nat) (hl : ∀ x ∈ l, x < 18446744073709551616) (hlen : l.length ≤ 1000) (w : World) (hr : Rd w v l.length (l.map encN)) : Calls Tryz.prog 14 #[v] w (RetS (l.flatMap numL) w) := by
  have hr0 := Lib.hid hr
  obtain ⟨ao, cap, rfl, -⟩ := hr
  replace hl := Lib.hid hl
  go_enter Tryz.func14, Tryz.ntmps14
  go_wp2_with fail
  go_loopw [3, 5, 8] (fun s _ v8 wr => ∃ (q : Nat) (u : ByteArray), v8 = .int .i64 q ∧ q ≤ l.length ∧ s = .string u ∧ Hid (u.data.toList = (l.take q).flatMap numL) ∧ Hid (Below w.heap.size w wr)) (fun _ _ v8 _ => l.length - (intOf v8).toNat)
  case atStart => exact ⟨0, ⟨#[]⟩, rfl, Nat.zero_le _, rfl, Lib.hid rfl, Lib.hid (Below.refl _ _)⟩
  case round =>
    obtain ⟨q, u, rfl, hq, rfl, hu, hb⟩ := hrel
    by_cases hlt : q < l.length
    · have hl1 : (q : Int) < (l.length : Int) := by omega
      obtain ⟨b, o, rfl, -, hc⟩ := (hr0.out.below hb.out).at_pos (by omega)
      have c0 : wr.cell? ⟨b, o + q, none⟩ = some (.int .u64 (l[q] : Nat)) := hc q _ (by rw [List.getElem?_map, List.getElem?_eq_getElem hlt]; rfl)
      have hcap := (hr0.out.below hb.out).cap_le (by omega)
      have hn := Lib.hid (num_any l[q] (hl.out _ (List.getElem_mem hlt)) wr)
      have hnx : Hid ((l.take (q + 1)).flatMap numL = (l.take q).flatMap numL ++ numL l[q]) := Lib.hid (by rw [List.take_succ_eq_append_getElem hlt, List.flatMap_append]; simp)
      generalize l[q] = x at c0 hn hnx
      clear hc
      go_wp2_with fail
      refine hn.out.mono ?_
      rintro e w1 ⟨u2, rfl, hu2, hb1⟩
      have hz : u.size + u2.size ≤ 9223372036854775807 := by
        have h1 := nums_len (l.take (q + 1)) (fun y hy => hl.out y (List.mem_of_mem_take hy))
        rw [hnx.out, ← hu.out, ← hu2.out, List.length_append, List.length_take] at h1
        rw [size_len, size_len]; omega
      have hb2 := Lib.hid (hb.out.trans (hb1.out.mono hb.out.size))
      have hu3 : Hid ((u ++ u2).data.toList = (l.take (q + 1)).flatMap numL) := Lib.hid (by rw [toList_app, hu.out, hu2.out, hnx.out])
      clear hn hb1 c0
      go_wp2_with fail
      go_roundw
      case rel => exact ⟨q + 1, _, by go_num, by omega, rfl, hu3, hb2⟩
      case measure => simp [intOf] <;> omega
    · obtain rfl : q = l.length := by omega
      have hu3 : Hid (u.data.toList = l.flatMap numL) := Lib.hid (by rw [hu.out, List.take_length])
      go_wp2_with fail
      go_ret
      exact ⟨_, rfl, hu3, hb⟩
end Go.Proofs.YtpkaoiadjffjiaaGreat
