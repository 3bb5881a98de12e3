/- The law's has (a number in a row): walked. mail.Same's closures over letters and mailboxes, asked about like ones: walked. mail.Same's closure over mailboxes, EqualFunc over them, asked about like ones: walked. (written by tools/gen_MoF.py) mail.Same, asked about two states of like mailboxes and nothing else: walked. The document's Meant: walked. MailStores: the plain law: what a store does to each letter, and what it answers. -/
import Derived.Test.YtdobbfjmlnlieaaGreatB22
import Derived.Laws.EntriesVeiled
import Derived.Test.YtdobbfjmlnlieaaGreatB27
namespace Go.Proofs.YtdobbfjmlnlieaaGreat
set_option linter.unusedSimpArgs false
open Go.RowKit

end Go.Proofs.YtdobbfjmlnlieaaGreat
namespace Go.Proofs.YtdobbfjmlnlieaaGreat
set_option linter.unusedSimpArgs false
open Go.RowKit
attribute [local go_sem ↓] Go.wp_at_zero Go.wp_at_succ

set_option maxRecDepth 100000 in
set_option maxHeartbeats 16000000 in
theorem eqLt_yes {W : World} (X Y : LtV) (hX : FlIn W X.v X.x.flags) (hY : FlIn W Y.v Y.x.flags) (he : X.x = Y.x) (hl : X.x.flags.length * 16 ≤ 140737488355328) :
    Calls Tryz.prog 58 #[.agg (ltCells X).toArray, .agg (ltCells Y).toArray] W fun e w' => e = .returned (.bool true) ∧ Hid (Below W.heap.size W w') := by
  obtain ⟨⟨u, f, m, h, z⟩, xa, xc⟩ := X
  obtain ⟨⟨u2, f2, m2, h2, z2⟩, ya, yc⟩ := Y
  dsimp only at he hl
  injection he with e1 e2 e3 e4 e5
  subst e1 e2 e3 e4 e5
  have hs := Lib.hid (fun w (hb : Below W.heap.size W w) => equal_any _ _ f f w (Rd.below hX hb) (Rd.below hY hb) hl hl)
  unfold ltCells LtV.v
  unfold LtV.v at hs
  dsimp only at hs ⊢
  have n0 : ((u : Int) == (u : Int)) = true := by simp
  have n1 : ((m : Int) == (m : Int)) = true := by simp
  have n2 : (h.toList == h.toList) = true := by simp
  have n3 : ((z : Int) == (z : Int)) = true := by simp
  go_enter Tryz.func58, Tryz.ntmps58
  go_wp2_with (go_at_call 59; refine (hs.out _ (below2 _ _ _)).mono ?_; rintro e w3 ⟨rfl, hb3⟩; rw [decide_eq_true rfl])
  go_ret
  exact ⟨rfl, Lib.hid ((below2 _ _ _).trans (hb3.out.mono (below2 _ _ _).size))⟩
set_option maxRecDepth 100000 in
set_option maxHeartbeats 16000000 in
theorem eqLts_yes {W : World} (rows rows2 : List LtV) (xa ya : Option Addr) (xc yc : Nat) (hX : LtsIn W (.slice xa rows.length xc) rows) (hY : LtsIn W (.slice ya rows2.length yc) rows2) (he : rows.map LtV.x = rows2.map LtV.x) (hl : rows.length ≤ 1000000) (hfl : ∀ y ∈ rows, y.x.flags.length * 16 ≤ 140737488355328) :
    Calls Tryz.prog 61 #[.slice xa rows.length xc, .slice ya rows2.length yc, .func (.func 58) #[] #[]] W fun e w' => e = .returned (.bool true) ∧ Hid (Below W.heap.size W w') := by
  have hlen : rows2.length = rows.length := by have := congrArg List.length he; simpa using this.symm
  have hX0 : Hid (∀ w', Below W.heap.size W w' → LtsIn w' (.slice xa rows.length xc) rows) := Lib.hid (fun w' h => hX.below h)
  have hY0 : Hid (∀ w', Below W.heap.size W w' → LtsIn w' (.slice ya rows2.length yc) rows2) := Lib.hid (fun w' h => hY.below h)
  have e5 : Hid (∀ j (h : j < rows.length) (h2 : j < rows2.length), rows[j].x = rows2[j].x) := Lib.hid (fun j h h2 => by
    have := congrArg (fun l : List Lt => l[j]?) he
    simp only [List.getElem?_map, List.getElem?_eq_getElem h, List.getElem?_eq_getElem h2, Option.map_some, Option.some.injEq] at this
    exact this)
  rw [hlen]
  replace hlen := Lib.hid hlen
  replace hfl := Lib.hid hfl
  have hne4 : ((rows.length : Int) != (rows.length : Int)) = false := by simp
  clear hX hY he
  go_enter Tryz.func61, Tryz.ntmps61
  go_wp2_with fail
  clear hne4
  go_loopw [17] (fun v17 wr => ∃ j : Nat, v17 = .int .i64 j ∧ j ≤ rows.length ∧ Hid (Below W.heap.size W wr)) (fun v17 _ => rows.length - (intOf v17).toNat)
  case atStart => exact ⟨0, rfl, Nat.zero_le _, Lib.hid (Below.refl _ _)⟩
  case round =>
    obtain ⟨j, rfl, hj, hb0⟩ := hrel
    by_cases hlt2 : j < rows.length
    · have hlt3 : j < rows2.length := by rw [hlen.out]; exact hlt2
      have hinX := hX0.out wr hb0.out
      have hinY := hY0.out wr hb0.out
      obtain ⟨b, bo, cap, hv, hcX⟩ := hinX.cells_at hlt2
      injection hv with hv1 hv2 hv3
      subst hv1 hv3
      obtain ⟨b2, bo2, cap2, hv, hcY⟩ := hinY.cells_at hlt3
      injection hv with hv1 hv2 hv3
      subst hv1 hv3
      have hsame := e5.out j hlt2 hlt3
      have hfX := hinX.2 _ (List.getElem_mem hlt2)
      have hfY := hinY.2 _ (List.getElem_mem hlt3)
      have hfl1 := hfl.out _ (List.getElem_mem hlt2)
      obtain ⟨z, hz'⟩ : ∃ z, rows[j] = z := ⟨_, rfl⟩
      obtain ⟨y, hy'⟩ : ∃ y, rows2[j] = y := ⟨_, rfl⟩
      rw [hz'] at hcX hsame hfX hfl1
      rw [hy'] at hcY hsame hfY
      have hcall : Hid (∀ w', Below wr.heap.size wr w' → Calls Tryz.prog 58 #[.agg #[.int .u64 z.x.uid, .slice z.a z.x.flags.length z.c, .int .u64 z.x.mod, .string z.x.hash, .int .u64 z.x.size], .agg #[.int .u64 y.x.uid, .slice y.a y.x.flags.length y.c, .int .u64 y.x.mod, .string y.x.hash, .int .u64 y.x.size]] w' (fun e w'' => e = .returned (.bool true) ∧ Hid (Below w'.heap.size w' w''))) := Lib.hid (fun w' hb => eqLt_yes z y (hfX.below hb) (hfY.below hb) hsame hfl1)
      have hi0 : (0 : Int) ≤ (j : Int) := by omega
      have hi1 : (j : Int) < (rows.length : Int) := by omega
      replace hcX : ∀ W', Below wr.heap.size wr W' → W'.cell? ⟨b, bo + j * 5, none⟩ = some (.int .u64 z.x.uid) ∧ W'.cell? ⟨b, bo + j * 5 + 1, none⟩ = some (.slice z.a z.x.flags.length z.c) ∧ W'.cell? ⟨b, bo + j * 5 + 2, none⟩ = some (.int .u64 z.x.mod) ∧ W'.cell? ⟨b, bo + j * 5 + 3, none⟩ = some (.string z.x.hash) ∧ W'.cell? ⟨b, bo + j * 5 + 4, none⟩ = some (.int .u64 z.x.size) := hcX
      obtain ⟨c0, c1, c2, c3, c4⟩ := hcX wr (Below.refl _ _)
      replace hcY : Hid (∀ W', Below wr.heap.size wr W' → W'.cell? ⟨b2, bo2 + j * 5, none⟩ = some (.int .u64 y.x.uid) ∧ W'.cell? ⟨b2, bo2 + j * 5 + 1, none⟩ = some (.slice y.a y.x.flags.length y.c) ∧ W'.cell? ⟨b2, bo2 + j * 5 + 2, none⟩ = some (.int .u64 y.x.mod) ∧ W'.cell? ⟨b2, bo2 + j * 5 + 3, none⟩ = some (.string y.x.hash) ∧ W'.cell? ⟨b2, bo2 + j * 5 + 4, none⟩ = some (.int .u64 y.x.size)) := Lib.hid hcY
      clear hinX hinY hfX hfY hfl1 hz' hy' hlt3 hcX hsame
      go_upto_region 6 with fail
      have hz1 := (Zoo.nil wr).newBox [.int .u64 z.x.uid, .slice z.a z.x.flags.length z.c, .int .u64 z.x.mod, .string z.x.hash, .int .u64 z.x.size].toArray 50
      clear c0 c1 c2 c3 c4
      obtain ⟨B1, hB1⟩ : ∃ B1, wr.heap.size = B1 := ⟨_, rfl⟩
      have hlt1 : B1 < (wr.alloc (.cells [.int .u64 z.x.uid, .slice z.a z.x.flags.length z.c, .int .u64 z.x.mod, .string z.x.hash, .int .u64 z.x.size].toArray 50)).heap.size := by rw [← hB1]; simp
      obtain ⟨c0, c1, c2, c3, c4⟩ := hcY.out _ hz1.bel
      rw [hB1] at hz1 ⊢
      generalize (wr.alloc (.cells #[.int .u64 z.x.uid, .slice z.a z.x.flags.length z.c, .int .u64 z.x.mod, .string z.x.hash, .int .u64 z.x.size] 50)) = W1 at *
      go_upto_region 7 with fail
      have hz2 := hz1.newBox [.int .u64 y.x.uid, .slice y.a y.x.flags.length y.c, .int .u64 y.x.mod, .string y.x.hash, .int .u64 y.x.size].toArray 50
      clear c0 c1 c2 c3 c4 hz1
      obtain ⟨B2, hB2⟩ : ∃ B2, W1.heap.size = B2 := ⟨_, rfl⟩
      rw [hB2] at hz2 hlt1 ⊢
      generalize (W1.alloc (.cells #[.int .u64 y.x.uid, .slice y.a y.x.flags.length y.c, .int .u64 y.x.mod, .string y.x.hash, .int .u64 y.x.size] 50)) = W2 at *
      obtain ⟨hb1, -⟩ := hz2.box 1 rfl
      have c0 : W2.cell? ⟨B1, 0, none⟩ = some (.int .u64 z.x.uid) := box_cell hb1 0
      have c1 : W2.cell? ⟨B1, 1, none⟩ = some (.slice z.a z.x.flags.length z.c) := box_cell hb1 1
      have c2 : W2.cell? ⟨B1, 2, none⟩ = some (.int .u64 z.x.mod) := box_cell hb1 2
      have c3 : W2.cell? ⟨B1, 3, none⟩ = some (.string z.x.hash) := box_cell hb1 3
      have c4 : W2.cell? ⟨B1, 4, none⟩ = some (.int .u64 z.x.size) := box_cell hb1 4
      obtain ⟨hb1, -⟩ := hz2.box 0 rfl
      have d0 : W2.cell? ⟨B2, 0, none⟩ = some (.int .u64 y.x.uid) := box_cell hb1 0
      have d1 : W2.cell? ⟨B2, 1, none⟩ = some (.slice y.a y.x.flags.length y.c) := box_cell hb1 1
      have d2 : W2.cell? ⟨B2, 2, none⟩ = some (.int .u64 y.x.mod) := box_cell hb1 2
      have d3 : W2.cell? ⟨B2, 3, none⟩ = some (.string y.x.hash) := box_cell hb1 3
      have d4 : W2.cell? ⟨B2, 4, none⟩ = some (.int .u64 y.x.size) := box_cell hb1 4
      have hbel2 := Lib.hid hz2.bel
      replace hcall := Lib.hid (hcall.out W2 hz2.bel)
      clear hb1 hz2 hB1 hB2 hcY
      go_wp2_with fail
      refine hcall.out.mono ?_
      rintro e w5 ⟨rfl, hb5⟩
      have hB := Lib.hid (hb0.out.trans ((hbel2.out.trans (hb5.out.mono hbel2.out.size)).mono hb0.out.size))
      clear c0 c1 c2 c3 c4 d0 d1 d2 d3 d4 hcall hb5 hbel2
      go_wp2_with fail
      go_roundw
      case rel => exact ⟨j + 1, by go_num, by omega, hB⟩
      case measure => simp [intOf] <;> omega
    · obtain rfl : j = rows.length := by omega
      go_wp2_with fail
      go_ret
      exact ⟨rfl, hb0⟩
end Go.Proofs.YtdobbfjmlnlieaaGreat
namespace Go.Proofs.YtdobbfjmlnlieaaGreat
set_option linter.unusedSimpArgs false
open Go.RowKit
attribute [local go_sem ↓] Go.wp_at_zero Go.wp_at_succ

theorem BxsIn.cells_at {W : World} {v : Value} {rows : List BxV} (h : BxsIn W v rows) {j : Nat} (hj : j < rows.length) : ∃ b bo cap, v = .slice (some ⟨b, bo, none⟩) rows.length cap ∧
    ∀ W', Below W.heap.size W W' → W'.cell? ⟨b, bo + j * 5, none⟩ = some (.string rows[j].name) ∧ W'.cell? ⟨b, bo + j * 5 + 1, none⟩ = some (.int .u64 rows[j].validity) ∧ W'.cell? ⟨b, bo + j * 5 + 2, none⟩ = some (.int .u64 rows[j].next) ∧ W'.cell? ⟨b, bo + j * 5 + 3, none⟩ = some (.int .u64 rows[j].high) ∧ W'.cell? ⟨b, bo + j * 5 + 4, none⟩ = some rows[j].v := by
  obtain ⟨b, bo, cap, hv, -, hbl, hc⟩ := bxT.rd_cells h.1 hj
  refine ⟨b, bo, cap, hv, fun W' hb => ?_⟩
  have hk : ∀ r u, (bxT.enc rows[j])[r]? = some u → W'.cell? ⟨b, bo + j * 5 + r, none⟩ = some u := fun r u hu => by
    rw [Nat.add_assoc]
    exact (hb.cell (p := ⟨b, bo + (j * 5 + r), none⟩) hbl).trans (hc r u hu)
  exact ⟨hk 0 _ rfl, hk 1 _ rfl, hk 2 _ rfl, hk 3 _ rfl, hk 4 _ rfl⟩
set_option maxRecDepth 100000 in
set_option maxHeartbeats 16000000 in
theorem eqBx_yes {W : World} (X Y : BxV) (A : Nat) (hX : LtsIn W X.v X.rows) (hY : LtsIn W Y.v Y.rows) (he : X.b = Y.b) (hl : X.rows.length ≤ 1000000) (hfl : ∀ y ∈ X.rows, y.x.flags.length * 16 ≤ 140737488355328) (hA : W.cell? ⟨A, 0, none⟩ = some (.func (.func 58) #[] #[])) :
    Calls Tryz.prog 60 #[bxAgg X, bxAgg Y, .pointer (some ⟨A, 0, none⟩)] W fun e w' => e = .returned (.bool true) ∧ Hid (Below W.heap.size W w') := by
  obtain ⟨nm, va, nx, hg, rows, xa, xc⟩ := X
  obtain ⟨nm2, va2, nx2, hg2, rows2, ya, yc⟩ := Y
  unfold BxV.b at he
  dsimp only at he hl hfl
  injection he with e1 e2 e3 e4 e5
  subst e1 e2 e3 e4
  have hs := Lib.hid (fun w (hb : Below W.heap.size W w) => eqLts_yes rows rows2 xa ya xc yc (hX.below hb) (hY.below hb) e5 hl hfl)
  have hlt := World.block_lt_of_cell? _ _ hA
  have hA2 : Hid (∀ w, Below W.heap.size W w → w.cell? ⟨A, 0, none⟩ = some (.func (.func 58) #[] #[])) := Lib.hid (fun w hb => (hb.cell (p := ⟨A, 0, none⟩) hlt).trans hA)
  have n0 : (nm.toList == nm.toList) = true := by simp
  have n1 : ((va : Int) == (va : Int)) = true := by simp
  have n2 : ((nx : Int) == (nx : Int)) = true := by simp
  have n3 : ((hg : Int) == (hg : Int)) = true := by simp
  show Calls Tryz.prog 60 #[.agg #[.string nm, .int .u64 va, .int .u64 nx, .int .u64 hg, .slice xa rows.length xc], .agg #[.string nm, .int .u64 va, .int .u64 nx, .int .u64 hg, .slice ya rows2.length yc], .pointer (some ⟨A, 0, none⟩)] W _
  have hz2 := ((Zoo.nil W).newBox [.string nm, .int .u64 va, .int .u64 nx, .int .u64 hg, .slice xa rows.length xc].toArray 48).newBox [.string nm, .int .u64 va, .int .u64 nx, .int .u64 hg, .slice ya rows2.length yc].toArray 48
  have hlt : W.heap.size < (W.alloc (.cells [.string nm, .int .u64 va, .int .u64 nx, .int .u64 hg, .slice xa rows.length xc].toArray 48)).heap.size := by simp
  generalize hMB : W.heap.size = MB at hz2 hlt
  generalize hRB : (W.alloc (.cells [.string nm, .int .u64 va, .int .u64 nx, .int .u64 hg, .slice xa rows.length xc].toArray 48)).heap.size = RB at hz2 hlt
  generalize hWb : ((W.alloc (.cells [.string nm, .int .u64 va, .int .u64 nx, .int .u64 hg, .slice xa rows.length xc].toArray 48)).alloc (.cells [.string nm, .int .u64 va, .int .u64 nx, .int .u64 hg, .slice ya rows2.length yc].toArray 48)) = Wb at hz2
  obtain ⟨hbX, -⟩ := hz2.box 1 rfl
  have x0 : Wb.cell? ⟨MB, 0, none⟩ = some (.string nm) := box_cell hbX 0
  have x1 : Wb.cell? ⟨MB, 1, none⟩ = some (.int .u64 va) := box_cell hbX 1
  have x2 : Wb.cell? ⟨MB, 2, none⟩ = some (.int .u64 nx) := box_cell hbX 2
  have x3 : Wb.cell? ⟨MB, 3, none⟩ = some (.int .u64 hg) := box_cell hbX 3
  have x4 : Wb.cell? ⟨MB, 4, none⟩ = some (.slice xa rows.length xc) := box_cell hbX 4
  obtain ⟨hbY, -⟩ := hz2.box 0 rfl
  have y0 : Wb.cell? ⟨RB, 0, none⟩ = some (.string nm) := box_cell hbY 0
  have y1 : Wb.cell? ⟨RB, 1, none⟩ = some (.int .u64 va) := box_cell hbY 1
  have y2 : Wb.cell? ⟨RB, 2, none⟩ = some (.int .u64 nx) := box_cell hbY 2
  have y3 : Wb.cell? ⟨RB, 3, none⟩ = some (.int .u64 hg) := box_cell hbY 3
  have y4 : Wb.cell? ⟨RB, 4, none⟩ = some (.slice ya rows2.length yc) := box_cell hbY 4
  have hbel := Lib.hid hz2.bel
  have a0 := hA2.out _ hz2.bel
  clear hbX hbY hX hY hA hA2 hz2
  go_enter Tryz.func60, Tryz.ntmps60
  go_upto_region 1 with fail
  clear hWb hRB
  go_wp2_with (go_at_call 61; refine (hs.out _ hbel.out).mono ?_; rintro e w3 ⟨rfl, hb3⟩)
  go_ret
  exact ⟨rfl, Lib.hid (by rw [← hMB]; exact hbel.out.trans (hb3.out.mono hbel.out.size))⟩
set_option maxRecDepth 100000 in
set_option maxHeartbeats 16000000 in
theorem eqBxs_yes {W : World} (rows rows2 : List BxV) (A : Nat) (xa ya : Option Addr) (xc yc : Nat) (hX : BxsIn W (.slice xa rows.length xc) rows) (hY : BxsIn W (.slice ya rows2.length yc) rows2) (he : rows.map BxV.b = rows2.map BxV.b) (hl : rows.length ≤ 1000000) (hfl : ∀ y ∈ rows, y.rows.length ≤ 1000000 ∧ ∀ x ∈ y.rows, x.x.flags.length * 16 ≤ 140737488355328) (hA : W.cell? ⟨A, 0, none⟩ = some (.func (.func 58) #[] #[])) :
    Calls Tryz.prog 64 #[.slice xa rows.length xc, .slice ya rows2.length yc, .func (.func 60) #[] #[.pointer (some ⟨A, 0, none⟩)]] W fun e w' => e = .returned (.bool true) ∧ Hid (Below W.heap.size W w') := by
  have hlen : rows2.length = rows.length := by have := congrArg List.length he; simpa using this.symm
  have hX0 : Hid (∀ w', Below W.heap.size W w' → BxsIn w' (.slice xa rows.length xc) rows) := Lib.hid (fun w' h => hX.below h)
  have hY0 : Hid (∀ w', Below W.heap.size W w' → BxsIn w' (.slice ya rows2.length yc) rows2) := Lib.hid (fun w' h => hY.below h)
  have e5 : Hid (∀ j (h : j < rows.length) (h2 : j < rows2.length), rows[j].b = rows2[j].b) := Lib.hid (fun j h h2 => by
    have := congrArg (fun l : List Bx => l[j]?) he
    simp only [List.getElem?_map, List.getElem?_eq_getElem h, List.getElem?_eq_getElem h2, Option.map_some, Option.some.injEq] at this
    exact this)
  rw [hlen]
  have hlt := World.block_lt_of_cell? _ _ hA
  have hA2 : Hid (∀ w, Below W.heap.size W w → w.cell? ⟨A, 0, none⟩ = some (.func (.func 58) #[] #[])) := Lib.hid (fun w hb => (hb.cell (p := ⟨A, 0, none⟩) hlt).trans hA)
  clear hA hlt
  replace hlen := Lib.hid hlen
  replace hfl := Lib.hid hfl
  have hne4 : ((rows.length : Int) != (rows.length : Int)) = false := by simp
  clear hX hY he
  go_enter Tryz.func64, Tryz.ntmps64
  go_wp2_with fail
  clear hne4
  go_loopw [17] (fun v17 wr => ∃ j : Nat, v17 = .int .i64 j ∧ j ≤ rows.length ∧ Hid (Below W.heap.size W wr)) (fun v17 _ => rows.length - (intOf v17).toNat)
  case atStart => exact ⟨0, rfl, Nat.zero_le _, Lib.hid (Below.refl _ _)⟩
  case round =>
    obtain ⟨j, rfl, hj, hb0⟩ := hrel
    by_cases hlt2 : j < rows.length
    · have hlt3 : j < rows2.length := by rw [hlen.out]; exact hlt2
      have hinX := hX0.out wr hb0.out
      have hinY := hY0.out wr hb0.out
      obtain ⟨b, bo, cap, hv, hcX⟩ := hinX.cells_at hlt2
      injection hv with hv1 hv2 hv3
      subst hv1 hv3
      obtain ⟨b2, bo2, cap2, hv, hcY⟩ := hinY.cells_at hlt3
      injection hv with hv1 hv2 hv3
      subst hv1 hv3
      have hsame := e5.out j hlt2 hlt3
      have hfX := hinX.2 _ (List.getElem_mem hlt2)
      have hfY := hinY.2 _ (List.getElem_mem hlt3)
      have hfl1 := hfl.out _ (List.getElem_mem hlt2)
      obtain ⟨z, hz'⟩ : ∃ z, rows[j] = z := ⟨_, rfl⟩
      obtain ⟨y, hy'⟩ : ∃ y, rows2[j] = y := ⟨_, rfl⟩
      rw [hz'] at hcX hsame hfX hfl1
      rw [hy'] at hcY hsame hfY
      have hcall : Hid (∀ w', Below wr.heap.size wr w' → Calls Tryz.prog 60 #[.agg #[.string z.name, .int .u64 z.validity, .int .u64 z.next, .int .u64 z.high, .slice z.a z.rows.length z.c], .agg #[.string y.name, .int .u64 y.validity, .int .u64 y.next, .int .u64 y.high, .slice y.a y.rows.length y.c], .pointer (some ⟨A, 0, none⟩)] w' (fun e w'' => e = .returned (.bool true) ∧ Hid (Below w'.heap.size w' w''))) := Lib.hid (fun w' hb => eqBx_yes z y A (hfX.below hb) (hfY.below hb) hsame hfl1.1 hfl1.2 (hA2.out w' (hb0.out.trans (hb.mono hb0.out.size))))
      have hi0 : (0 : Int) ≤ (j : Int) := by omega
      have hi1 : (j : Int) < (rows.length : Int) := by omega
      replace hcX : ∀ W', Below wr.heap.size wr W' → W'.cell? ⟨b, bo + j * 5, none⟩ = some (.string z.name) ∧ W'.cell? ⟨b, bo + j * 5 + 1, none⟩ = some (.int .u64 z.validity) ∧ W'.cell? ⟨b, bo + j * 5 + 2, none⟩ = some (.int .u64 z.next) ∧ W'.cell? ⟨b, bo + j * 5 + 3, none⟩ = some (.int .u64 z.high) ∧ W'.cell? ⟨b, bo + j * 5 + 4, none⟩ = some (.slice z.a z.rows.length z.c) := hcX
      obtain ⟨c0, c1, c2, c3, c4⟩ := hcX wr (Below.refl _ _)
      replace hcY : Hid (∀ W', Below wr.heap.size wr W' → W'.cell? ⟨b2, bo2 + j * 5, none⟩ = some (.string y.name) ∧ W'.cell? ⟨b2, bo2 + j * 5 + 1, none⟩ = some (.int .u64 y.validity) ∧ W'.cell? ⟨b2, bo2 + j * 5 + 2, none⟩ = some (.int .u64 y.next) ∧ W'.cell? ⟨b2, bo2 + j * 5 + 3, none⟩ = some (.int .u64 y.high) ∧ W'.cell? ⟨b2, bo2 + j * 5 + 4, none⟩ = some (.slice y.a y.rows.length y.c)) := Lib.hid hcY
      clear hinX hinY hfX hfY hfl1 hz' hy' hlt3 hcX hsame
      go_upto_region 6 with fail
      have hz1 := (Zoo.nil wr).newBox [.string z.name, .int .u64 z.validity, .int .u64 z.next, .int .u64 z.high, .slice z.a z.rows.length z.c].toArray 48
      clear c0 c1 c2 c3 c4
      obtain ⟨B1, hB1⟩ : ∃ B1, wr.heap.size = B1 := ⟨_, rfl⟩
      have hlt1 : B1 < (wr.alloc (.cells [.string z.name, .int .u64 z.validity, .int .u64 z.next, .int .u64 z.high, .slice z.a z.rows.length z.c].toArray 48)).heap.size := by rw [← hB1]; simp
      obtain ⟨c0, c1, c2, c3, c4⟩ := hcY.out _ hz1.bel
      rw [hB1] at hz1 ⊢
      generalize (wr.alloc (.cells #[.string z.name, .int .u64 z.validity, .int .u64 z.next, .int .u64 z.high, .slice z.a z.rows.length z.c] 48)) = W1 at *
      go_upto_region 7 with fail
      have hz2 := hz1.newBox [.string y.name, .int .u64 y.validity, .int .u64 y.next, .int .u64 y.high, .slice y.a y.rows.length y.c].toArray 48
      clear c0 c1 c2 c3 c4 hz1
      obtain ⟨B2, hB2⟩ : ∃ B2, W1.heap.size = B2 := ⟨_, rfl⟩
      rw [hB2] at hz2 hlt1 ⊢
      generalize (W1.alloc (.cells #[.string y.name, .int .u64 y.validity, .int .u64 y.next, .int .u64 y.high, .slice y.a y.rows.length y.c] 48)) = W2 at *
      obtain ⟨hb1, -⟩ := hz2.box 1 rfl
      have c0 : W2.cell? ⟨B1, 0, none⟩ = some (.string z.name) := box_cell hb1 0
      have c1 : W2.cell? ⟨B1, 1, none⟩ = some (.int .u64 z.validity) := box_cell hb1 1
      have c2 : W2.cell? ⟨B1, 2, none⟩ = some (.int .u64 z.next) := box_cell hb1 2
      have c3 : W2.cell? ⟨B1, 3, none⟩ = some (.int .u64 z.high) := box_cell hb1 3
      have c4 : W2.cell? ⟨B1, 4, none⟩ = some (.slice z.a z.rows.length z.c) := box_cell hb1 4
      obtain ⟨hb1, -⟩ := hz2.box 0 rfl
      have d0 : W2.cell? ⟨B2, 0, none⟩ = some (.string y.name) := box_cell hb1 0
      have d1 : W2.cell? ⟨B2, 1, none⟩ = some (.int .u64 y.validity) := box_cell hb1 1
      have d2 : W2.cell? ⟨B2, 2, none⟩ = some (.int .u64 y.next) := box_cell hb1 2
      have d3 : W2.cell? ⟨B2, 3, none⟩ = some (.int .u64 y.high) := box_cell hb1 3
      have d4 : W2.cell? ⟨B2, 4, none⟩ = some (.slice y.a y.rows.length y.c) := box_cell hb1 4
      have hbel2 := Lib.hid hz2.bel
      replace hcall := Lib.hid (hcall.out W2 hz2.bel)
      clear hb1 hz2 hB1 hB2 hcY
      go_wp2_with fail
      refine hcall.out.mono ?_
      rintro e w5 ⟨rfl, hb5⟩
      have hB := Lib.hid (hb0.out.trans ((hbel2.out.trans (hb5.out.mono hbel2.out.size)).mono hb0.out.size))
      clear c0 c1 c2 c3 c4 d0 d1 d2 d3 d4 hcall hb5 hbel2
      go_wp2_with fail
      go_roundw
      case rel => exact ⟨j + 1, by go_num, by omega, hB⟩
      case measure => simp [intOf] <;> omega
    · obtain rfl : j = rows.length := by omega
      go_wp2_with fail
      go_ret
      exact ⟨rfl, hb0⟩
end Go.Proofs.YtdobbfjmlnlieaaGreat
namespace Go.Proofs.YtdobbfjmlnlieaaGreat
set_option linter.unusedSimpArgs false
open Go.RowKit
attribute [local go_sem ↓] Go.wp_at_zero Go.wp_at_succ

set_option maxRecDepth 100000 in
theorem eqSt0 (W : World) : Calls Tryz.prog 62 #[.slice none 0 0, .slice none 0 0] W fun e w' => e = .returned (.bool true) ∧ w' = W := by
  go_enter Tryz.func62, Tryz.ntmps62
  go_wp2_with fail
  go_loopw [13] (fun v13 wr => v13 = .int .i64 0 ∧ wr = W) (fun _ _ => 0)
  case atStart => exact ⟨rfl, rfl⟩
  case round =>
    obtain ⟨rfl, rfl⟩ := hrel
    go_wp2_with fail
    go_ret
    exact ⟨rfl, rfl⟩
set_option maxRecDepth 100000 in
theorem eqHm0 (W : World) : Calls Tryz.prog 63 #[.slice none 0 0, .slice none 0 0] W fun e w' => e = .returned (.bool true) ∧ w' = W := by
  go_enter Tryz.func63, Tryz.ntmps63
  go_wp2_with fail
  go_loopw [13] (fun v13 wr => v13 = .int .i64 0 ∧ wr = W) (fun _ _ => 0)
  case atStart => exact ⟨rfl, rfl⟩
  case round =>
    obtain ⟨rfl, rfl⟩ := hrel
    go_wp2_with fail
    go_ret
    exact ⟨rfl, rfl⟩
set_option maxRecDepth 100000 in
set_option maxHeartbeats 16000000 in
theorem sameM_yes {W : World} (b1 b2 : List BxV) (aa ab : Option Addr) (nv ns sw : Nat) (ca cb : Nat) (h1 : BxsIn W (.slice aa b1.length ca) b1) (h2 : BxsIn W (.slice ab b2.length cb) b2) (he : b1.map BxV.b = b2.map BxV.b) (hl : b1.length ≤ 1000000) (hfl : ∀ y ∈ b1, y.rows.length ≤ 1000000 ∧ ∀ x ∈ y.rows, x.x.flags.length * 16 ≤ 140737488355328) :
    Calls Tryz.prog 21 #[mlVal (.slice aa b1.length ca) nv (.slice none 0 0) (.slice none 0 0) ns sw, mlVal (.slice ab b2.length cb) nv (.slice none 0 0) (.slice none 0 0) ns sw] W fun e w' => e = .returned (.bool true) ∧ Hid (Below W.heap.size W w') := by
  have hs := Lib.hid (fun w A (hb : Below W.heap.size W w) hA => eqBxs_yes b1 b2 A aa ab ca cb (h1.below hb) (h2.below hb) he hl hfl hA)
  unfold mlVal
  generalize b1.length = n1 at *
  generalize b2.length = n2 at *
  clear h1 h2 he hfl hl
  have hz2 := ((Zoo.nil W).newBox [.slice aa n1 ca, .int .u64 nv, .slice none 0 0, .slice none 0 0, .int .u64 ns, .int .u64 sw].toArray 27).newBox [.slice ab n2 cb, .int .u64 nv, .slice none 0 0, .slice none 0 0, .int .u64 ns, .int .u64 sw].toArray 27
  have hlt : W.heap.size < (W.alloc (.cells [.slice aa n1 ca, .int .u64 nv, .slice none 0 0, .slice none 0 0, .int .u64 ns, .int .u64 sw].toArray 27)).heap.size := by simp
  generalize hMB : W.heap.size = MB at hz2 hlt
  generalize hRB : (W.alloc (.cells [.slice aa n1 ca, .int .u64 nv, .slice none 0 0, .slice none 0 0, .int .u64 ns, .int .u64 sw].toArray 27)).heap.size = RB at hz2 hlt
  generalize hWb : ((W.alloc (.cells [.slice aa n1 ca, .int .u64 nv, .slice none 0 0, .slice none 0 0, .int .u64 ns, .int .u64 sw].toArray 27)).alloc (.cells [.slice ab n2 cb, .int .u64 nv, .slice none 0 0, .slice none 0 0, .int .u64 ns, .int .u64 sw].toArray 27)) = Wb at hz2
  go_enter Tryz.func21, Tryz.ntmps21
  go_upto_region 1 with fail
  have hz3 := hz2.newBox [.func (.func 58) #[] #[]].toArray 61
  clear hWb hRB
  go_upto_region 3 with fail
  obtain ⟨A, hA⟩ : ∃ A, Wb.heap.size = A := ⟨_, rfl⟩
  rw [hA] at hz3 ⊢
  generalize (Wb.alloc (.cells #[.func (.func 58) #[] #[]] 61)) = Wc at *
  obtain ⟨hbA, -⟩ := hz3.box 0 rfl
  obtain ⟨hbY, -⟩ := hz3.box 1 rfl
  obtain ⟨hbX, -⟩ := hz3.box 2 rfl
  have x0 : Wc.cell? ⟨MB, 0, none⟩ = some (.slice aa n1 ca) := box_cell hbX 0
  have x1 : Wc.cell? ⟨MB, 1, none⟩ = some (.int .u64 nv) := box_cell hbX 1
  have x2 : Wc.cell? ⟨MB, 2, none⟩ = some (.slice none 0 0) := box_cell hbX 2
  have x3 : Wc.cell? ⟨MB, 3, none⟩ = some (.slice none 0 0) := box_cell hbX 3
  have x4 : Wc.cell? ⟨MB, 4, none⟩ = some (.int .u64 ns) := box_cell hbX 4
  have x5 : Wc.cell? ⟨MB, 5, none⟩ = some (.int .u64 sw) := box_cell hbX 5
  have y0 : Wc.cell? ⟨RB, 0, none⟩ = some (.slice ab n2 cb) := box_cell hbY 0
  have y1 : Wc.cell? ⟨RB, 1, none⟩ = some (.int .u64 nv) := box_cell hbY 1
  have y2 : Wc.cell? ⟨RB, 2, none⟩ = some (.slice none 0 0) := box_cell hbY 2
  have y3 : Wc.cell? ⟨RB, 3, none⟩ = some (.slice none 0 0) := box_cell hbY 3
  have y4 : Wc.cell? ⟨RB, 4, none⟩ = some (.int .u64 ns) := box_cell hbY 4
  have y5 : Wc.cell? ⟨RB, 5, none⟩ = some (.int .u64 sw) := box_cell hbY 5
  have hcall := Lib.hid (hs.out Wc A hz3.bel (box_cell hbA 0))
  have t0 : ((nv : Int) == (nv : Int)) = true := by simp
  have t1 : ((ns : Int) == (ns : Int)) = true := by simp
  have t2 : ((sw : Int) == (sw : Int)) = true := by simp
  have hbel := Lib.hid hz3.bel
  clear hbA hbY hbX hz2 hz3 hA hlt hs
  go_wp2_with (first
    | (go_at_call 62; refine (eqSt0 _).mono ?_; rintro e w1 ⟨rfl, rfl⟩)
    | (go_at_call 63; refine (eqHm0 _).mono ?_; rintro e w1 ⟨rfl, rfl⟩)
    | (go_at_call 64; refine hcall.out.mono ?_; rintro e w1 ⟨rfl, hb1⟩))
  go_ret
  exact ⟨rfl, Lib.hid (by rw [← hMB]; exact hbel.out.trans (hb1.out.mono hbel.out.size))⟩
end Go.Proofs.YtdobbfjmlnlieaaGreat
namespace Go.Proofs.YtdobbfjmlnlieaaGreat
set_option linter.unusedSimpArgs false
open Go.RowKit
attribute [local go_sem ↓] Go.wp_at_zero Go.wp_at_succ

/-- the greatest number that a letter has -/
def maxU : List Lt → Nat
  | l => l.foldl (fun m x => if m < x.uid then x.uid else m) 0
theorem maxU_step {l : List LtV} {j : Nat} (hj : j < l.length) : maxU ((l.take (j + 1)).map LtV.x) = if maxU ((l.take j).map LtV.x) < l[j].x.uid then l[j].x.uid else maxU ((l.take j).map LtV.x) := by
  rw [List.take_succ_eq_append_getElem hj, List.map_append]
  unfold maxU
  rw [List.foldl_append]
  rfl
set_option maxRecDepth 100000 in
set_option maxHeartbeats 16000000 in
theorem refMeant_any {W : World} (X : BxV) (x : LtV) (rs : List (Nat × Nat)) (au : Option Addr) (cu : Nat) (hX : LtsIn W X.v X.rows) (hr : RangesIn W W.heap.size (.slice au rs.length cu) rs) (hl : X.rows.length ≤ 1000000) (hlu : rs.length ≤ 1000000) :
    Calls Tryz.prog 22 #[bxAgg X, .slice au rs.length cu, .agg (ltCells x).toArray] W fun e w' => e = .returned (.bool (hasL rs (maxU X.b.letters) x.x.uid)) ∧ Hid (Below W.heap.size W w') := by
  obtain ⟨nm, va, nx, hg, rows, xa, xc⟩ := X
  dsimp only at hl
  have hX0 : Hid (∀ w', Below W.heap.size W w' → LtsIn w' (.slice xa rows.length xc) rows) := Lib.hid (fun w' h => hX.below h)
  have hr0 : Hid (∀ w' m, Below W.heap.size W w' → Calls Tryz.prog 65 #[.slice au rs.length cu, .int .u64 (m : Nat), .int .u64 x.x.uid] w' fun e w'' => e = .returned (.bool (hasL rs m x.x.uid)) ∧ Below w'.heap.size w' w'') := Lib.hid (fun w' m h => refSetHas_any rs _ m x.x.uid w' (by omega) (hr.on h))
  show Calls Tryz.prog 22 #[.agg #[.string nm, .int .u64 va, .int .u64 nx, .int .u64 hg, .slice xa rows.length xc], .slice au rs.length cu, .agg #[.int .u64 x.x.uid, .slice x.a x.x.flags.length x.c, .int .u64 x.x.mod, .string x.x.hash, .int .u64 x.x.size]] W (fun e w' => e = .returned (.bool (hasL rs (maxU (rows.map LtV.x)) x.x.uid)) ∧ Hid (Below W.heap.size W w'))
  have hz2 := ((Zoo.nil W).newBox [.string nm, .int .u64 va, .int .u64 nx, .int .u64 hg, .slice xa rows.length xc].toArray 48).newBox [.int .u64 x.x.uid, .slice x.a x.x.flags.length x.c, .int .u64 x.x.mod, .string x.x.hash, .int .u64 x.x.size].toArray 50
  have hlt : W.heap.size < (W.alloc (.cells [.string nm, .int .u64 va, .int .u64 nx, .int .u64 hg, .slice xa rows.length xc].toArray 48)).heap.size := by simp
  generalize hMB : W.heap.size = MB at hz2 hlt
  generalize hRB : (W.alloc (.cells [.string nm, .int .u64 va, .int .u64 nx, .int .u64 hg, .slice xa rows.length xc].toArray 48)).heap.size = RB at hz2 hlt
  generalize hWb : ((W.alloc (.cells [.string nm, .int .u64 va, .int .u64 nx, .int .u64 hg, .slice xa rows.length xc].toArray 48)).alloc (.cells [.int .u64 x.x.uid, .slice x.a x.x.flags.length x.c, .int .u64 x.x.mod, .string x.x.hash, .int .u64 x.x.size].toArray 50)) = Wb at hz2
  obtain ⟨hbX, -⟩ := hz2.box 1 rfl
  have x4 : Wb.cell? ⟨MB, 4, none⟩ = some (.slice xa rows.length xc) := box_cell hbX 4
  clear hbX hX hr
  replace hz2 := Lib.hid hz2
  go_enter Tryz.func22, Tryz.ntmps22
  go_upto_region 1 with fail
  clear hWb hRB
  go_wp2_with fail
  clear x4
  go_loopw [7, 8] (fun v7 v8 wr => ∃ j : Nat, v8 = .int .i64 j ∧ j ≤ rows.length ∧ v7 = .int .u64 (maxU ((rows.take j).map LtV.x) : Nat) ∧ Hid (Zoo W wr [boxT RB [.int .u64 x.x.uid, .slice x.a x.x.flags.length x.c, .int .u64 x.x.mod, .string x.x.hash, .int .u64 x.x.size].toArray 50, boxT MB [.string nm, .int .u64 va, .int .u64 nx, .int .u64 hg, .slice xa rows.length xc].toArray 48])) (fun _ v8 _ => rows.length - (intOf v8).toNat)
  case atStart => exact ⟨0, rfl, Nat.zero_le _, rfl, hz2⟩
  case round =>
    clear hz2
    obtain ⟨j, rfl, hj, rfl, hz⟩ := hrel
    obtain ⟨hbX, -⟩ := hz.out.box 1 rfl
    have x4 : wr.cell? ⟨MB, 4, none⟩ = some (.slice xa rows.length xc) := box_cell hbX 4
    clear hbX
    by_cases hlt2 : j < rows.length
    · have hinX := hX0.out wr hz.out.bel
      obtain ⟨b, bo, cap, hv, hcX⟩ := hinX.cells_at hlt2
      injection hv with hv1 hv2 hv3
      subst hv1 hv3
      obtain ⟨c0, -⟩ := hcX wr (Below.refl _ _)
      have hst := maxU_step hlt2
      have hi0 : (0 : Int) ≤ (j : Int) := by omega
      have hi1 : (j : Int) < (rows.length : Int) := by omega
      generalize maxU ((rows.take j).map LtV.x) = M at *
      replace hst := Lib.hid hst
      generalize rows[j].x.uid = u at *
      clear hcX hinX
      by_cases hg : M < u
      · have hst := Lib.hid (hst.out.trans (if_pos hg))
        have hgt : (M : Int) < (u : Int) := by omega
        have hgt2 := decide_eq_true hgt
        clear hg
        go_wp2_with fail
        go_roundw
        case rel => exact ⟨j + 1, by go_num, by omega, by rw [hst.out], hz⟩
        case measure => simp [intOf] <;> omega
      · have hst := Lib.hid (hst.out.trans (if_neg hg))
        have hgt : ¬ (M : Int) < (u : Int) := by omega
        have hgt2 := decide_eq_false hgt
        go_wp2_with fail
        go_roundw
        case rel => exact ⟨j + 1, by go_num, by omega, by rw [hst.out], hz⟩
        case measure => simp [intOf] <;> omega
    · obtain rfl : j = rows.length := by omega
      rw [List.take_length]
      generalize hM : maxU (rows.map LtV.x) = M
      replace hM := Lib.hid hM
      obtain ⟨hbL, -⟩ := hz.out.box 0 rfl
      have y0 : wr.cell? ⟨RB, 0, none⟩ = some (.int .u64 x.x.uid) := box_cell hbL 0
      clear hbL
      go_wp2_with (go_at_call 65; refine (hr0.out _ M hz.out.bel).mono ?_; rintro e w5 ⟨rfl, hb5⟩; replace hb5 := Lib.hid hb5)
      go_ret
      exact ⟨by rw [hM.out]; rfl, Lib.hid (by rw [← hMB]; exact (hz.out.below hb5.out).bel)⟩
end Go.Proofs.YtdobbfjmlnlieaaGreat
namespace Go.Proofs.YtdobbfjmlnlieaaGreat
set_option linter.unusedSimpArgs false
open Go.RowKit

theorem foldU_le : ∀ (l : List Lt) (m n : Nat), m ≤ n → (∀ y ∈ l, y.uid ≤ n) → l.foldl (fun m x => if m < x.uid then x.uid else m) m ≤ n
  | [], m, n, h, _ => h
  | x :: r, m, n, h, h2 => by
    rw [List.foldl_cons]
    refine foldU_le r _ n ?_ (fun y hy => h2 y (List.mem_cons_of_mem _ hy))
    have := h2 x (List.mem_cons_self ..)
    split <;> omega
/-- numbers that rise: the greatest is the last -/
theorem maxU_up {l : List Lt} (h : l.Pairwise (fun x y => x.uid < y.uid)) : maxU l = mostB l := by
  rcases List.eq_nil_or_concat l with rfl | ⟨r, x, rfl⟩
  · rfl
  · rw [List.concat_eq_append] at h ⊢
    have h2 := (List.pairwise_append.1 h).2.2
    have h3 : maxU r ≤ x.uid := foldU_le r 0 x.uid (Nat.zero_le _) (fun y hy => by have := h2 y hy x (List.mem_singleton.2 rfl); omega)
    have h4 : maxU (r ++ [x]) = if maxU r < x.uid then x.uid else maxU r := by unfold maxU; rw [List.foldl_append]; rfl
    have h5 : mostB (r ++ [x]) = x.uid := by unfold mostB; rw [List.getLast?_concat]
    rw [h4, h5]
    split <;> omega
/-- what a store has done that says yes -/
structure Stored (m : Ml) (q : Rq) (t : Ml) (o : Oc) (a b : Bx) : Prop where
  mem : a ∈ m.boxes
  was : findM m q.box = some a
  now : findM t q.box = some b
  len : b.letters.length = a.letters.length
  lets : ∀ j (h : j < a.letters.length) (h2 : j < b.letters.length), b.letters[j] = stNew a.letters q a.high a.letters[j]
  uids : o.uids = (a.letters.filter (stDone a.letters q)).map Lt.uid
  mods : o.mods = (a.letters.filter (stHeld a.letters q)).map Lt.uid
end Go.Proofs.YtdobbfjmlnlieaaGreat
