/- SameBox: walked. (written by tools/gen_MnS.py out of MnC) hash, of the digit two: walked. (written by tools/gen_MnT.py out of MmQ) A state whose numbers are used up: plain. -/
import Derived.Test.YtdobbfjmlnlieaaGreatB22
import Derived.Test.YtdobbfjmlnlieaaGreatB27
namespace Go.Proofs.YtdobbfjmlnlieaaGreat
set_option linter.unusedSimpArgs false
open Go.RowKit
attribute [local go_sem ↓] Go.wp_at_zero Go.wp_at_succ

set_option maxRecDepth 100000 in
set_option maxHeartbeats 16000000 in
theorem sameBox_any {W : World} (X Y : BxV) (hX : LtsIn W X.v X.rows) (hY : LtsIn W Y.v Y.rows) (hl : X.rows.length ≤ 1000000) (hfl : ∀ y ∈ X.rows, y.x.flags.length * 16 ≤ 140737488355328) :
    Calls Tryz.prog 20 #[bxAgg X, bxAgg Y] W (YesNo (X.b = Y.b) W) := by
  obtain ⟨nm, va, nx, hg, rows, xa, xc⟩ := X
  obtain ⟨nm2, va2, nx2, hg2, rows2, ya, yc⟩ := Y
  dsimp only at hl hfl
  have hX0 : Hid (∀ w', Below W.heap.size W w' → LtsIn w' (.slice xa rows.length xc) rows) := Lib.hid (fun w' h => hX.below h)
  have hY0 : Hid (∀ w', Below W.heap.size W w' → LtsIn w' (.slice ya rows2.length yc) rows2) := Lib.hid (fun w' h => hY.below h)
  obtain ⟨Pp, hP⟩ : ∃ Pp : Prop, Pp = ((⟨nm, va, nx, hg, rows.map LtV.x⟩ : Bx) = ⟨nm2, va2, nx2, hg2, rows2.map LtV.x⟩) := ⟨_, rfl⟩
  show Calls Tryz.prog 20 #[.agg #[.string nm, .int .u64 va, .int .u64 nx, .int .u64 hg, .slice xa rows.length xc], .agg #[.string nm2, .int .u64 va2, .int .u64 nx2, .int .u64 hg2, .slice ya rows2.length yc]] W (YesNo ((⟨nm, va, nx, hg, rows.map LtV.x⟩ : Bx) = ⟨nm2, va2, nx2, hg2, rows2.map LtV.x⟩) W)
  rw [← hP]
  replace hP := Lib.hid hP
  replace hfl := Lib.hid hfl
  have hz2 := ((Zoo.nil W).newBox [.string nm, .int .u64 va, .int .u64 nx, .int .u64 hg, .slice xa rows.length xc].toArray 48).newBox [.string nm2, .int .u64 va2, .int .u64 nx2, .int .u64 hg2, .slice ya rows2.length yc].toArray 48
  have hlt : W.heap.size < (W.alloc (.cells [.string nm, .int .u64 va, .int .u64 nx, .int .u64 hg, .slice xa rows.length xc].toArray 48)).heap.size := by simp
  generalize hMB : W.heap.size = MB at hz2 hlt
  generalize hRB : (W.alloc (.cells [.string nm, .int .u64 va, .int .u64 nx, .int .u64 hg, .slice xa rows.length xc].toArray 48)).heap.size = RB at hz2 hlt
  generalize hWb : ((W.alloc (.cells [.string nm, .int .u64 va, .int .u64 nx, .int .u64 hg, .slice xa rows.length xc].toArray 48)).alloc (.cells [.string nm2, .int .u64 va2, .int .u64 nx2, .int .u64 hg2, .slice ya rows2.length yc].toArray 48)) = Wb at hz2
  obtain ⟨hbX, -⟩ := hz2.box 1 rfl
  have x0 : Wb.cell? ⟨MB, 0, none⟩ = some (.string nm) := box_cell hbX 0
  have x1 : Wb.cell? ⟨MB, 1, none⟩ = some (.int .u64 va) := box_cell hbX 1
  have x2 : Wb.cell? ⟨MB, 2, none⟩ = some (.int .u64 nx) := box_cell hbX 2
  have x3 : Wb.cell? ⟨MB, 3, none⟩ = some (.int .u64 hg) := box_cell hbX 3
  have x4 : Wb.cell? ⟨MB, 4, none⟩ = some (.slice xa rows.length xc) := box_cell hbX 4
  obtain ⟨hbY, -⟩ := hz2.box 0 rfl
  have y0 : Wb.cell? ⟨RB, 0, none⟩ = some (.string nm2) := box_cell hbY 0
  have y1 : Wb.cell? ⟨RB, 1, none⟩ = some (.int .u64 va2) := box_cell hbY 1
  have y2 : Wb.cell? ⟨RB, 2, none⟩ = some (.int .u64 nx2) := box_cell hbY 2
  have y3 : Wb.cell? ⟨RB, 3, none⟩ = some (.int .u64 hg2) := box_cell hbY 3
  have y4 : Wb.cell? ⟨RB, 4, none⟩ = some (.slice ya rows2.length yc) := box_cell hbY 4
  clear hbX hbY hX hY
  have hbel := Lib.hid hz2.bel
  replace hz2 := Lib.hid hz2
  go_enter Tryz.func20, Tryz.ntmps20
  go_upto_region 1 with fail
  clear hWb hRB
  cases t0 : (nm.toList == nm2.toList) with
  | false =>
    have hn := Lib.hid (show ¬ Pp from fun h => by rw [hP.out] at h; have h2 := congrArg Bx.name h; dsimp only at h2; rw [h2] at t0; simp at t0)
    have t0' : (nm.toList != nm2.toList) = true := by simpa [bne] using t0
    clear hX0 hY0
    go_wp2_with fail
    go_ret
    first | exact ⟨false, rfl, Lib.hid ⟨nofun, fun h => absurd h hn.out⟩, hbel⟩ | (rw [← hMB]; exact ⟨false, rfl, Lib.hid ⟨nofun, fun h => absurd h hn.out⟩, hbel⟩)
  | true =>
    obtain rfl : nm = nm2 := toList_inj_ (eq_of_beq t0)
    have t0' : (nm.toList != nm.toList) = false := by simp
    cases t1 : ((va : Int) == (va2 : Int)) with
    | false =>
      have hn := Lib.hid (show ¬ Pp from fun h => by rw [hP.out] at h; have h2 := congrArg Bx.validity h; dsimp only at h2; rw [h2] at t1; simp at t1)
      have t1' : ((va : Int) != (va2 : Int)) = true := by simpa [bne] using t1
      clear hX0 hY0
      go_wp2_with fail
      go_ret
      first | exact ⟨false, rfl, Lib.hid ⟨nofun, fun h => absurd h hn.out⟩, hbel⟩ | (rw [← hMB]; exact ⟨false, rfl, Lib.hid ⟨nofun, fun h => absurd h hn.out⟩, hbel⟩)
    | true =>
      obtain rfl : va = va2 := by have h := eq_of_beq t1; omega
      have t1' : ((va : Int) != (va : Int)) = false := by simp
      cases t2 : ((nx : Int) == (nx2 : Int)) with
      | false =>
        have hn := Lib.hid (show ¬ Pp from fun h => by rw [hP.out] at h; have h2 := congrArg Bx.next h; dsimp only at h2; rw [h2] at t2; simp at t2)
        have t2' : ((nx : Int) != (nx2 : Int)) = true := by simpa [bne] using t2
        clear hX0 hY0
        go_wp2_with fail
        go_ret
        first | exact ⟨false, rfl, Lib.hid ⟨nofun, fun h => absurd h hn.out⟩, hbel⟩ | (rw [← hMB]; exact ⟨false, rfl, Lib.hid ⟨nofun, fun h => absurd h hn.out⟩, hbel⟩)
      | true =>
        obtain rfl : nx = nx2 := by have h := eq_of_beq t2; omega
        have t2' : ((nx : Int) != (nx : Int)) = false := by simp
        cases t3 : ((hg : Int) == (hg2 : Int)) with
        | false =>
          have hn := Lib.hid (show ¬ Pp from fun h => by rw [hP.out] at h; have h2 := congrArg Bx.high h; dsimp only at h2; rw [h2] at t3; simp at t3)
          have t3' : ((hg : Int) != (hg2 : Int)) = true := by simpa [bne] using t3
          clear hX0 hY0
          go_wp2_with fail
          go_ret
          first | exact ⟨false, rfl, Lib.hid ⟨nofun, fun h => absurd h hn.out⟩, hbel⟩ | (rw [← hMB]; exact ⟨false, rfl, Lib.hid ⟨nofun, fun h => absurd h hn.out⟩, hbel⟩)
        | true =>
          obtain rfl : hg = hg2 := by have h := eq_of_beq t3; omega
          have t3' : ((hg : Int) != (hg : Int)) = false := by simp
          cases t4 : ((rows.length : Int) == (rows2.length : Int)) with
          | false =>
            have hn := Lib.hid (show ¬ Pp from fun h => by rw [hP.out] at h; have h2 := congrArg (fun b : Bx => b.letters.length) h; simp only [List.length_map] at h2; rw [h2] at t4; simp at t4)
            have t4' : ((rows.length : Int) != (rows2.length : Int)) = true := by simpa [bne] using t4
            clear hX0 hY0
            go_wp2_with fail
            go_ret
            first | exact ⟨false, rfl, Lib.hid ⟨nofun, fun h => absurd h hn.out⟩, hbel⟩ | (rw [← hMB]; exact ⟨false, rfl, Lib.hid ⟨nofun, fun h => absurd h hn.out⟩, hbel⟩)
          | true =>
            have t4' : ((rows.length : Int) != (rows2.length : Int)) = false := by simpa [bne] using t4
            have hlen : Hid (rows2.length = rows.length) := Lib.hid (by have h := eq_of_beq t4; omega)
            rw [hlen.out] at t4 t4' y4 hz2 hY0
            go_wp2_with fail
            clear x0 x1 x2 x3 x4 y0 y1 y2 y3 y4 t0 t1 t2 t3 t4 t0' t1' t2' t3' t4'
            go_loopw [5] (fun v5 wr => ∃ j : Nat, v5 = .int .i64 j ∧ j ≤ rows.length ∧ Hid (∀ k (h : k < rows.length) (h2 : k < rows2.length), k < j → rows[k].x = rows2[k].x) ∧ Hid (Zoo W wr [boxT RB [.string nm, .int .u64 va, .int .u64 nx, .int .u64 hg, .slice ya rows.length yc].toArray 48, boxT MB [.string nm, .int .u64 va, .int .u64 nx, .int .u64 hg, .slice xa rows.length xc].toArray 48])) (fun v5 _ => rows.length - (intOf v5).toNat)
            case atStart => exact ⟨0, rfl, Nat.zero_le _, Lib.hid (fun k h h2 hk => absurd hk (Nat.not_lt_zero _)), hz2⟩
            case round =>
              clear hz2
              obtain ⟨j, rfl, hj, heq, hz⟩ := hrel
              obtain ⟨hbX, -⟩ := hz.out.box 1 rfl
              have x4 : wr.cell? ⟨MB, 4, none⟩ = some (.slice xa rows.length xc) := box_cell hbX 4
              clear hbX
              by_cases hlt2 : j < rows.length
              · have hlt3 : j < rows2.length := by rw [hlen.out]; exact hlt2
                have hinX := hX0.out wr hz.out.bel
                have hinY := hY0.out wr hz.out.bel
                obtain ⟨b, bo, cap, hv, hcX⟩ := hinX.cells_at hlt2
                injection hv with hv1 hv2 hv3
                subst hv1 hv3
                obtain ⟨b2, bo2, cap2, hv, hcY⟩ := LtsIn.cells_at (v := .slice ya rows2.length yc) (by rw [hlen.out]; exact hinY) hlt3
                injection hv with hv1 hv2 hv3
                subst hv1 hv3
                have hstep : rows[j].x = rows2[j].x → ∀ k (h : k < rows.length) (h2 : k < rows2.length), k < j + 1 → rows[k].x = rows2[k].x := fun hs k h h2 hk => by
                  by_cases e : k = j
                  · subst e; exact hs
                  · exact heq.out k h h2 (by omega)
                have hbad : rows[j].x ≠ rows2[j].x → ¬ Pp := fun hs h => hs (by
                  rw [hP.out] at h
                  have h2 := congrArg (fun b : Bx => b.letters[j]?) h
                  simp only [List.getElem?_map, List.getElem?_eq_getElem hlt2, List.getElem?_eq_getElem hlt3, Option.map_some, Option.some.injEq] at h2
                  exact h2)
                have hfX := hinX.2 _ (List.getElem_mem hlt2)
                have hfY := hinY.2 _ (List.getElem_mem hlt3)
                have hfl1 := hfl.out _ (List.getElem_mem hlt2)
                obtain ⟨z, hz'⟩ : ∃ z, rows[j] = z := ⟨_, rfl⟩
                obtain ⟨y, hy'⟩ : ∃ y, rows2[j] = y := ⟨_, rfl⟩
                rw [hz'] at hcX hstep hbad hfX hfl1
                rw [hy'] at hcY hstep hbad hfY
                have hcall : Hid (∀ w', Below wr.heap.size wr w' → Calls Tryz.prog 25 #[.agg #[.int .u64 z.x.uid, .slice z.a z.x.flags.length z.c, .int .u64 z.x.mod, .string z.x.hash, .int .u64 z.x.size], .agg #[.int .u64 y.x.uid, .slice y.a y.x.flags.length y.c, .int .u64 y.x.mod, .string y.x.hash, .int .u64 y.x.size]] w' (YesNo (z.x = y.x) w')) := Lib.hid (fun w' hb => sameLt_any z y (hfX.below hb) (hfY.below hb) hfl1)
                have hi0 : (0 : Int) ≤ (j : Int) := by omega
                have hi1 : (j : Int) < (rows.length : Int) := by omega
                replace hstep := Lib.hid hstep
                replace hbad := Lib.hid hbad
                replace hcX : Hid (∀ W', Below wr.heap.size wr W' → W'.cell? ⟨b, bo + j * 5, none⟩ = some (.int .u64 z.x.uid) ∧ W'.cell? ⟨b, bo + j * 5 + 1, none⟩ = some (.slice z.a z.x.flags.length z.c) ∧ W'.cell? ⟨b, bo + j * 5 + 2, none⟩ = some (.int .u64 z.x.mod) ∧ W'.cell? ⟨b, bo + j * 5 + 3, none⟩ = some (.string z.x.hash) ∧ W'.cell? ⟨b, bo + j * 5 + 4, none⟩ = some (.int .u64 z.x.size)) := Lib.hid hcX
                replace hcY : Hid (∀ W', Below wr.heap.size wr W' → W'.cell? ⟨b2, bo2 + j * 5, none⟩ = some (.int .u64 y.x.uid) ∧ W'.cell? ⟨b2, bo2 + j * 5 + 1, none⟩ = some (.slice y.a y.x.flags.length y.c) ∧ W'.cell? ⟨b2, bo2 + j * 5 + 2, none⟩ = some (.int .u64 y.x.mod) ∧ W'.cell? ⟨b2, bo2 + j * 5 + 3, none⟩ = some (.string y.x.hash) ∧ W'.cell? ⟨b2, bo2 + j * 5 + 4, none⟩ = some (.int .u64 y.x.size)) := Lib.hid hcY
                have hd := (Below.refl wr.heap.size wr)
                clear hinX hinY hfX hfY hfl1 hz' hy' hlt3
                go_wp2_with fail
                have hzd := hz.out.drew
                replace hd := hd.drew
                have hcXd := hcX.out _ hd
                have hcYd := hcY.out _ hd
                obtain ⟨c0, c1, c2, c3, c4⟩ := hcXd
                obtain ⟨d0, d1, d2, d3, d4⟩ := hcYd
                obtain ⟨hbX, -⟩ := hzd.box 1 rfl
                obtain ⟨hbY, -⟩ := hzd.box 0 rfl
                have hS : wr.drew.cell? ⟨MB, 4, none⟩ = some (.slice (some ⟨b, bo, none⟩) rows.length xc) ∧ wr.drew.cell? ⟨RB, 4, none⟩ = some (.slice (some ⟨b2, bo2, none⟩) rows.length yc) := ⟨box_cell hbX 4, box_cell hbY 4⟩
                clear x4 hbX hbY
                refine wp_region_hd (fun w' => (w'.cell? ⟨MB, 4, none⟩ = some (.slice (some ⟨b, bo, none⟩) rows.length xc) ∧ w'.cell? ⟨RB, 4, none⟩ = some (.slice (some ⟨b2, bo2, none⟩) rows.length yc)) ∧ (w'.cell? ⟨b, bo + j * 5, none⟩ = some (.int .u64 z.x.uid) ∧ w'.cell? ⟨b, bo + j * 5 + 1, none⟩ = some (.slice z.a z.x.flags.length z.c) ∧ w'.cell? ⟨b, bo + j * 5 + 2, none⟩ = some (.int .u64 z.x.mod) ∧ w'.cell? ⟨b, bo + j * 5 + 3, none⟩ = some (.string z.x.hash) ∧ w'.cell? ⟨b, bo + j * 5 + 4, none⟩ = some (.int .u64 z.x.size)) ∧ (w'.cell? ⟨b2, bo2 + j * 5, none⟩ = some (.int .u64 y.x.uid) ∧ w'.cell? ⟨b2, bo2 + j * 5 + 1, none⟩ = some (.slice y.a y.x.flags.length y.c) ∧ w'.cell? ⟨b2, bo2 + j * 5 + 2, none⟩ = some (.int .u64 y.x.mod) ∧ w'.cell? ⟨b2, bo2 + j * 5 + 3, none⟩ = some (.string y.x.hash) ∧ w'.cell? ⟨b2, bo2 + j * 5 + 4, none⟩ = some (.int .u64 y.x.size))) 11 1 (by kernel_rfl) rfl ⟨by kernel_rfl, by kernel_rfl, by kernel_rfl, by decide⟩ ⟨hS, ⟨c0, c1, c2, c3, c4⟩, ⟨d0, d1, d2, d3, d4⟩⟩ (fun hok hS0 => ?_)
                have hcall2 := Lib.hid (hcall.out _ hd)
                generalize wr.drew = Wd at *
                refine Hd.take (i := 0) (v := ?tv501) hok rfl (by kernel_rfl) (fun _ _ _ h => h) (Or.inl ⟨by rfl, ?ty501⟩) (by assumption) ?tr501
                case ty501 => (intro w hSw; (try dsimp only at hSw); go_simp; (try with_reducible rfl))
                try simp only [List.getElem_toArray, List.getElem_cons_succ, List.getElem_cons_zero, Act.put, List.setIfInBounds_toArray, List.set_cons_zero, List.set_cons_succ]
                refine Hd.take (i := 1) (v := ?tv502) hok rfl (by kernel_rfl) (fun _ _ _ h => h) (Or.inl ⟨by rfl, ?ty502⟩) (by assumption) ?tr502
                case ty502 => (intro w hSw; (try dsimp only at hSw); go_simp; (try with_reducible rfl))
                try simp only [List.getElem_toArray, List.getElem_cons_succ, List.getElem_cons_zero, Act.put, List.setIfInBounds_toArray, List.set_cons_zero, List.set_cons_succ]
                refine Hd.take (i := 2) (v := ?tv503) hok rfl (by kernel_rfl) (fun _ _ _ h => h) (Or.inl ⟨by rfl, ?ty503⟩) (by assumption) ?tr503
                case ty503 => (intro w hSw; (try dsimp only at hSw); go_simp; (try with_reducible rfl))
                try simp only [List.getElem_toArray, List.getElem_cons_succ, List.getElem_cons_zero, Act.put, List.setIfInBounds_toArray, List.set_cons_zero, List.set_cons_succ]
                refine Hd.take (i := 3) (v := ?tv504) hok rfl (by kernel_rfl) (fun _ _ _ h => h) (Or.inl ⟨by rfl, ?ty504⟩) (by assumption) ?tr504
                case ty504 => (intro w hSw; (try dsimp only at hSw); go_simp; (try with_reducible rfl))
                try simp only [List.getElem_toArray, List.getElem_cons_succ, List.getElem_cons_zero, Act.put, List.setIfInBounds_toArray, List.set_cons_zero, List.set_cons_succ]
                refine Hd.take (i := 4) (v := ?tv505) hok rfl (by kernel_rfl) (fun _ _ _ h => h) (Or.inl ⟨by rfl, ?ty505⟩) (by assumption) ?tr505
                case ty505 => (intro w hSw; (try dsimp only at hSw); go_simp; (try with_reducible rfl))
                try simp only [List.getElem_toArray, List.getElem_cons_succ, List.getElem_cons_zero, Act.put, List.setIfInBounds_toArray, List.set_cons_zero, List.set_cons_succ]
                refine Hd.take (i := 5) (v := ?tv506) hok rfl (by kernel_rfl) (fun _ _ _ h => h) (Or.inl ⟨by rfl, ?ty506⟩) (by assumption) ?tr506
                case ty506 => (intro w hSw; (try dsimp only at hSw); go_simp; (try with_reducible rfl))
                try simp only [List.getElem_toArray, List.getElem_cons_succ, List.getElem_cons_zero, Act.put, List.setIfInBounds_toArray, List.set_cons_zero, List.set_cons_succ]
                refine Hd.take (i := 6) (v := ?tv507) hok rfl (by kernel_rfl) (fun _ _ _ h => h) (Or.inl ⟨by rfl, ?ty507⟩) (by assumption) ?tr507
                case ty507 => (intro w hSw; (try dsimp only at hSw); go_simp; (try with_reducible rfl))
                try simp only [List.getElem_toArray, List.getElem_cons_succ, List.getElem_cons_zero, Act.put, List.setIfInBounds_toArray, List.set_cons_zero, List.set_cons_succ]
                refine Hd.take (i := 7) (v := ?tv508) hok rfl (by kernel_rfl) (fun _ _ _ h => h) (Or.inl ⟨by rfl, ?ty508⟩) (by assumption) ?tr508
                case ty508 => (intro w hSw; (try dsimp only at hSw); go_simp; (try with_reducible rfl))
                try simp only [List.getElem_toArray, List.getElem_cons_succ, List.getElem_cons_zero, Act.put, List.setIfInBounds_toArray, List.set_cons_zero, List.set_cons_succ]
                refine Hd.take (i := 8) (v := ?tv509) hok rfl (by kernel_rfl) (fun _ _ _ h => h) (Or.inl ⟨by rfl, ?ty509⟩) (by assumption) ?tr509
                case ty509 => (intro w hSw; (try dsimp only at hSw); go_simp; (try with_reducible rfl))
                try simp only [List.getElem_toArray, List.getElem_cons_succ, List.getElem_cons_zero, Act.put, List.setIfInBounds_toArray, List.set_cons_zero, List.set_cons_succ]
                refine Hd.take (i := 9) (v := ?tv510) hok rfl (by kernel_rfl) (fun _ _ _ h => h) (Or.inl ⟨by rfl, ?ty510⟩) (by assumption) ?tr510
                case ty510 => (intro w hSw; (try dsimp only at hSw); go_simp; (try with_reducible rfl))
                try simp only [List.getElem_toArray, List.getElem_cons_succ, List.getElem_cons_zero, Act.put, List.setIfInBounds_toArray, List.set_cons_zero, List.set_cons_succ]
                refine Hd.one (i := 10) rfl (by kernel_rfl) (fun K hK => ?_)
                go_simp
                refine hcall2.out.mono ?_
                rintro e w5 ⟨B, rfl, hB, hb5⟩
                dsimp only
                have hz5 := hzd.below hb5.out
                have hd5 := hd.trans (hb5.out.mono hd.size)
                obtain ⟨hbX, -⟩ := hz5.box 1 rfl
                obtain ⟨hbY, -⟩ := hz5.box 0 rfl
                refine hK _ _ ⟨⟨box_cell hbX 4, box_cell hbY 4⟩, hcX.out _ hd5, hcY.out _ hd5⟩ ?_
                clear hK K
                try simp only [List.getElem_toArray, List.getElem_cons_succ, List.getElem_cons_zero, Act.put, List.setIfInBounds_toArray, List.set_cons_zero, List.set_cons_succ]
                refine Hd.done (by kernel_rfl) ?_
                simp only [List.drop_succ_cons, List.drop_zero]
                replace hz5 := Lib.hid hz5
                cases B with
                | false =>
                  have hn := Lib.hid (hbad.out (fun h => Bool.noConfusion (hB.out.2 h)))
                  have hbF := Lib.hid hz5.out.bel
                  clear hok hS0 c0 c1 c2 c3 c4 d0 d1 d2 d3 d4 hS hcall hcall2 hzd hbX hbY hb5 hB hstep hbad heq hz5
                  go_wp2_with fail
                  go_ret
                  first | exact ⟨false, rfl, Lib.hid ⟨nofun, fun h => absurd h hn.out⟩, hbF⟩ | (rw [← hMB]; exact ⟨false, rfl, Lib.hid ⟨nofun, fun h => absurd h hn.out⟩, hbF⟩)
                | true =>
                  have hs := Lib.hid (hstep.out (hB.out.1 rfl))
                  clear hok hS0 c0 c1 c2 c3 c4 d0 d1 d2 d3 d4 hS hcall hcall2 hzd hbX hbY hb5 hB hstep hbad heq
                  go_wp2_with fail
                  go_roundw
                  case rel => exact ⟨j + 1, by go_num, by omega, hs, hz5⟩
                  case measure => simp [intOf] <;> omega
              · obtain rfl : j = rows.length := by omega
                have hbF := Lib.hid hz.out.bel
                have hyes : Hid Pp := Lib.hid (by
                  rw [hP.out]
                  congr 1
                  refine List.ext_getElem (by rw [List.length_map, List.length_map, hlen.out]) (fun k h1 h2 => ?_)
                  rw [List.length_map] at h1 h2
                  rw [List.getElem_map, List.getElem_map]
                  exact heq.out k h1 h2 h1)
                go_wp2_with fail
                go_ret
                first | exact ⟨true, rfl, Lib.hid ⟨fun _ => hyes.out, fun _ => rfl⟩, hbF⟩ | (rw [← hMB]; exact ⟨true, rfl, Lib.hid ⟨fun _ => hyes.out, fun _ => rfl⟩, hbF⟩)
end Go.Proofs.YtdobbfjmlnlieaaGreat
namespace Go.Proofs.YtdobbfjmlnlieaaGreat
set_option linter.unusedSimpArgs false
open Go.RowKit
attribute [local go_sem ↓] Go.wp_at_zero Go.wp_at_succ

end Go.Proofs.YtdobbfjmlnlieaaGreat
namespace Go.Proofs.YtdobbfjmlnlieaaGreat
set_option linter.unusedSimpArgs false
open Go.RowKit

def h2B : ByteArray := mkB (hashL 2)
def spB (u s : Bool) : Bx := ⟨inB, 7, if u then 4294967296 else 9, if s then 9223372036854775807 else 9, [⟨3, [delL], 2, h1B, 0⟩, ⟨8, [], 9, h2B, 0⟩]⟩
def spM (u s : Bool) : Ml := ⟨[spB u s], 4294967296, [⟨1, 1, 1⟩], [⟨1, 4, 1, 1, 1⟩], 2, 0⟩
/-- what MailSpent asks of an answer -/
structure Sp (u s : Bool) (op : Int) (r : Ml × Oc) : Prop where
  one : r.1.boxes.length = 1
  cr : op = 4 → r.1.boxes = [spB u s] ∧ r.2.code ≠ 0
  ap : (op = 6 ∨ op = 9) → (u = true ∨ s = true) → r.1.boxes = [spB u s] ∧ r.2.uids = []
  st : (op = 7 ∨ op = 8) → s = true → r.1.boxes = [spB u s] ∧ (r.2.code ≠ 0 ∨ op = 7 ∨ r.2.uids = [])
  el : op ≠ 4 → op ≠ 6 → op ≠ 7 → op ≠ 8 → op ≠ 9 → r.1.boxes = [spB u s]
theorem Sp.err {u s : Bool} {op : Int} {m : Ml} {n : Int} (hm : m.boxes = [spB u s]) (hn : n ≠ 0) : Sp u s op (m, ocE n) := ⟨by rw [hm]; rfl, fun _ => ⟨hm, hn⟩, fun _ _ => ⟨hm, rfl⟩, fun _ _ => ⟨hm, .inl hn⟩, fun _ _ _ _ _ => hm⟩
/-- a deed's answer, ended -/
theorem Sp.fin {u s : Bool} {op : Int} {r : Int × Ml × Oc} (h0 : r.1 = 0 → Sp u s op (r.2.1, r.2.2)) (h1 : r.1 ≠ 0 → r.2.1.boxes = [spB u s]) : Sp u s op (finM r) := by
  unfold finM
  by_cases h : r.1 = 0
  · rw [if_pos h]; exact h0 h
  · rw [if_neg h]; exact .err (h1 h) h
end Go.Proofs.YtdobbfjmlnlieaaGreat
